/- The walk of RulesSplit. -/
import Derived.Test.YtokfcndhmbkelaaAwake06
namespace Go.Proofs.Ytokfcndhmbkelaa
open Go.RowKit
theorem bytes_list (s : ByteArray) : ∃ l : List UInt8, s = ⟨l.toArray⟩ := ⟨s.data.toList, by rw [Array.toArray_toList]⟩
/-- A rule's text stands where it says. -/
def StandsAt (L : List UInt8) (x : Ln) : Prop := ∃ n : Nat, x.at_ = n ∧ n + x.text.length ≤ L.length ∧ (L.drop n).take x.text.length = x.text
theorem lnOf_stands {L : List UInt8} {a : Nat} (h : badB (lineB (L.drop a)) ≠ true) : StandsAt L (lnOf (lineB (L.drop a)) a) := by
  have hle := lineB_le (L.drop a)
  have ht := lineB_take (L.drop a)
  have hdl : (L.drop a).length = L.length - a := List.length_drop ..
  obtain ⟨_, hn⟩ := headN_le 12 (lineB (L.drop a))
  generalize lineB (L.drop a) = line at *
  have hne : headN 12 line ≠ line.length := fun e => h (by unfold badB; rw [show (headN 12 line == line.length) = true from by simpa using e]; simp)
  have htx : (lnOf line a).text = line.drop (headN 12 line + 1) := rfl
  have htl : (line.drop (headN 12 line + 1)).length = line.length - (headN 12 line + 1) := List.length_drop ..
  refine ⟨a + headN 12 line + 1, rfl, ?_, ?_⟩
  · rw [htx, htl]; omega
  · rw [htx, htl]
    have e : line.drop (headN 12 line + 1) = ((L.drop a).take line.length).drop (headN 12 line + 1) := by rw [ht]
    rw [e, List.drop_take, List.drop_drop]
    rfl
theorem runF_stands {L : List UInt8} : ∀ (f a : Nat) (acc res : List Ln), runF f (L.drop a) a acc = .ok res → (∀ x ∈ acc, StandsAt L x) → ∀ x ∈ res, StandsAt L x
  | 0, a, acc, res, h, ha => by
    unfold runF at h; injection h with h; rw [← h]; exact ha
  | f + 1, a, acc, res, h, ha => by
    unfold runF at h
    by_cases h1 : skipB (lineB (L.drop a)) = true
    · rw [if_pos h1] at h
      by_cases h2 : (lineB (L.drop a)).length = (L.drop a).length
      · rw [if_pos h2] at h; injection h with h; rw [← h]; exact ha
      · rw [if_neg h2, List.drop_drop] at h
        exact runF_stands f _ acc res h ha
    · rw [if_neg h1] at h
      by_cases h2 : badB (lineB (L.drop a)) = true
      · rw [if_pos h2] at h; cases h
      · rw [if_neg h2] at h
        by_cases h3 : acc.length = 8 ∨ hasName acc (lnOf (lineB (L.drop a)) a).name = true
        · rw [if_pos h3] at h; cases h
        · rw [if_neg h3] at h
          have ha' : ∀ x ∈ acc ++ [lnOf (lineB (L.drop a)) a], StandsAt L x := by
            intro x hx
            rcases List.mem_append.1 hx with h5 | h5
            · exact ha x h5
            · rw [List.mem_singleton.1 h5]; exact lnOf_stands h2
          by_cases h4 : (lineB (L.drop a)).length = (L.drop a).length
          · rw [if_pos h4] at h; injection h with h; rw [← h]; exact ha'
          · rw [if_neg h4, List.drop_drop] at h
            exact runF_stands f _ _ res h ha'
theorem splitB_stands {L : List UInt8} {ls : List Ln} (h : splitB L = .ok ls) : ∀ x ∈ ls, StandsAt L x := by
  by_cases hb : 1000 < L.length
  · unfold splitB at h; rw [if_pos hb] at h; cases h
  · cases hr : runF (L.length + 1) L 0 [] with
    | error k => rw [splitB_err hb hr] at h; cases h
    | ok acc =>
      rw [splitB_ok hb hr] at h
      by_cases h0 : acc.length = 0
      · rw [if_pos h0] at h; cases h
      · rw [if_neg h0] at h; injection h with h; subst h
        exact runF_stands (L := L) _ 0 [] acc hr (fun _ h => by cases h)
theorem runF_small : ∀ (f : Nat) (l : List UInt8) (a : Nat) (acc res : List Ln), runF f l a acc = .ok res → acc.length ≤ 8 → res.length ≤ 8
  | 0, l, a, acc, res, h, ha => by
    unfold runF at h; injection h with h; rw [← h]; exact ha
  | f + 1, l, a, acc, res, h, ha => by
    unfold runF at h
    by_cases h1 : skipB (lineB l) = true
    · rw [if_pos h1] at h
      by_cases h2 : (lineB l).length = l.length
      · rw [if_pos h2] at h; injection h with h; rw [← h]; exact ha
      · rw [if_neg h2] at h
        exact runF_small f _ _ acc res h ha
    · rw [if_neg h1] at h
      by_cases h2 : badB (lineB l) = true
      · rw [if_pos h2] at h; cases h
      · rw [if_neg h2] at h
        by_cases h3 : acc.length = 8 ∨ hasName acc (lnOf (lineB l) a).name = true
        · rw [if_pos h3] at h; cases h
        · rw [if_neg h3] at h
          have ha' : (acc ++ [lnOf (lineB l) a]).length ≤ 8 := by
            have : acc.length ≠ 8 := fun e => h3 (.inl e)
            simp; omega
          by_cases h4 : (lineB l).length = l.length
          · rw [if_pos h4] at h; injection h with h; rw [← h]; exact ha'
          · rw [if_neg h4] at h
            exact runF_small f _ _ _ res h ha'
theorem splitB_small {L : List UInt8} {ls : List Ln} (h : splitB L = .ok ls) : ls.length ≤ 8 ∧ L.length ≤ 1000 := by
  by_cases hb : 1000 < L.length
  · unfold splitB at h; rw [if_pos hb] at h; cases h
  · refine ⟨?_, by omega⟩
    cases hr : runF (L.length + 1) L 0 [] with
    | error k => rw [splitB_err hb hr] at h; cases h
    | ok acc =>
      rw [splitB_ok hb hr] at h
      by_cases h0 : acc.length = 0
      · rw [if_pos h0] at h; cases h
      · rw [if_neg h0] at h; injection h with h; subst h
        exact runF_small _ _ 0 [] acc hr (Nat.zero_le _)
set_option maxHeartbeats 4000000 in
set_option maxRecDepth 100000 in
theorem rulesSplit_c (l : List UInt8) (w : World) : Calls Try.prog 3 #[str l] w fun e w' => e = .returned (.bool true) ∧ Below w.heap.size w w' := by
  have hs := mk_size l
  have AW := Lib.hid awake_c
  have SC := Lib.hid (fun (h : l.length ≤ 1000000) w1 => split_c l h w1)
  have RC := Lib.hid (fun (h : l.length ≤ 1000000) w1 => rsplit_c l h w1)
  have ST := Lib.hid (fun ls h x hx => splitB_stands (L := l) (ls := ls) h x hx)
  have SX := Lib.hid (fun n t => show (ByteArray.mk l.toArray).extract n (n + t) = ⟨((l.drop n).take t).toArray⟩ by rw [mk_extract, Nat.add_sub_cancel_left])
  unfold str at *
  generalize (ByteArray.mk l.toArray) = s at *
  have HS := Lib.hid hs
  clear hs
  by_cases hbig : 3000 < s.size
  · have t1 : decide ((3000 : Int) < (s.size : Nat)) = true := by simp; omega
    go_enter Try.func3, Try.ntmps3
    go_wp2_with fail
    refine (AW.out _).mono ?_; rintro e w1 ⟨rfl, b1⟩
    have B1 := Lib.hid b1
    clear b1
    go_wp2_with fail
    refine (AW.out _).mono ?_; rintro e w2 ⟨rfl, b2⟩
    have B2 := Lib.hid (below_step B1.out b2)
    clear b2
    go_wp2_with fail
    go_returns
    exact ⟨rfl, B2.out⟩
  · have hl : l.length ≤ 1000000 := by have := HS.out; omega
    have hsm : s.size ≤ 3000 := by omega
    have t1 : decide ((3000 : Int) < (s.size : Nat)) = false := by simp; omega
    clear hbig
    go_enter Try.func3, Try.ntmps3
    go_wp2_with fail
    refine (AW.out _).mono ?_; rintro e w1 ⟨rfl, b1⟩
    have B1 := Lib.hid b1
    clear b1
    go_wp2_with fail
    refine (SC.out hl _).mono ?_; rintro e w2 ⟨v1, n1, k1, rfl, hr1, b2⟩
    have HR1 := Lib.hid hr1
    have B2 := Lib.hid (below_step B1.out b2)
    clear hr1 b2
    go_wp2_with fail
    refine (RC.out hl _).mono ?_; rintro e w3 ⟨v2, n2, rfl, hr2, b3⟩
    have B3 := Lib.hid (below_step B2.out b3)
    cases hsp : splitB l with
    | error k =>
      have hr1 := HR1.out
      rw [hsp] at hr1 hr2
      obtain ⟨rfl, rfl, rfl⟩ := hr1
      obtain ⟨rfl, rfl⟩ := hr2
      have t2 : decide ((0 : Int) ≤ (k : Nat)) = true := decide_eq_true (Int.natCast_nonneg _)
      clear b3 HR1 SC RC ST SX hsp
      go_wp2_with fail
      go_returns
      exact ⟨rfl, B3.out⟩
    | ok ls =>
      have hr1 := HR1.out
      rw [hsp] at hr1 hr2
      obtain ⟨h1, rfl, rfl⟩ := hr1
      obtain ⟨h2, rfl⟩ := hr2
      have h1' := h1.below b3
      have HST := Lib.hid (ST.out ls hsp)
      have hls := (splitB_small hsp).1
      have HL1 := Lib.hid (h1'.mono (Nat.zero_le _))
      have HL2 := Lib.hid (h2.mono (Nat.zero_le _))
      obtain ⟨A1, cap1, rfl, _, _⟩ := h1
      obtain ⟨A2, cap2, rfl, _, _⟩ := h2
      clear b3 HR1 SC RC ST h1' hsp
      go_wp2_with fail
      go_loopw [57] (fun v wr => ∃ k : Nat, k ≤ ls.length ∧ v = .int .i64 k ∧ Below w3.heap.size w3 wr) (fun v _ => ls.length - (intOf v).toNat)
      case atStart => exact ⟨0, by omega, rfl, Below.refl _ _⟩
      case round =>
        obtain ⟨k, hk, rfl, hkp⟩ := hrel
        have HKP := Lib.hid hkp
        clear hkp
        by_cases hlt : k < ls.length
        · have l1 := HL1.out.below HKP.out
          have l2 := HL2.out.below HKP.out
          obtain ⟨B1, q1, e', _, hc1⟩ := l1
          injection e' with e1 _ e2
          subst e1
          subst e2
          obtain ⟨g, o, rfl, _, hg, hcell1⟩ := hc1 (by omega)
          obtain ⟨c0, c1, c2⟩ := hcell1 k hlt
          obtain ⟨B2, q2, e', _, hc2⟩ := l2
          injection e' with e1 _ e2
          subst e1
          subst e2
          obtain ⟨g2, o2, rfl, _, hg2, hcell2⟩ := hc2 (by omega)
          obtain ⟨c3, c4, c5⟩ := hcell2 k hlt
          obtain ⟨n, hn1, hn2, hn3⟩ := HST.out _ (List.getElem_mem hlt)
          have t2 : decide (k < ls.length) = true := by simp; omega
          have t3 : (k : Int) < (ls.length : Nat) := by omega
          have t4 : (0 : Int) ≤ (k : Int) := by omega
          clear hc1 hc2 hcell1 hcell2
          unfold str at *
          rw [hn1] at c2 c5
          have XE := SX.out n ls[k].text.length
          rw [hn3] at XE
          have z1 := mk_size ls[k].text
          have hnl : n + ls[k].text.length ≤ s.size := by have := HS.out; omega
          generalize (⟨ls[k].name.toArray⟩ : ByteArray) = s1 at *
          generalize (⟨ls[k].text.toArray⟩ : ByteArray) = s2 at *
          rw [← z1] at XE hnl
          have z2 : (n : Int) + (s2.size : Nat) ≤ (s.size : Nat) := by omega
          have z3 : (n : Int) ≤ (n : Int) + (s2.size : Nat) := by omega
          have z4 : ((n : Int) + (s2.size : Nat)).toNat = n + s2.size := by omega
          have z5 : (0 : Int) ≤ (n : Int) + (s2.size : Nat) := by omega
          clear hn1 hn2 hn3 z1 hnl
          have d0 : ∀ y : Ext wr, y.v.cell? ⟨g, o + k * 3, none⟩ = some (.string s1) := fun y => y.cell c0
          have d1 : ∀ y : Ext wr, y.v.cell? ⟨g, o + k * 3 + 1, none⟩ = some (.string s2) := fun y => y.cell c1
          have d2 : ∀ y : Ext wr, y.v.cell? ⟨g, o + k * 3 + 2, none⟩ = some (.int .i64 n) := fun y => y.cell c2
          have d3 : ∀ y : Ext wr, y.v.cell? ⟨g2, o2 + k * 3, none⟩ = some (.string s1) := fun y => y.cell c3
          have d4 : ∀ y : Ext wr, y.v.cell? ⟨g2, o2 + k * 3 + 1, none⟩ = some (.string s2) := fun y => y.cell c4
          have d5 : ∀ y : Ext wr, y.v.cell? ⟨g2, o2 + k * 3 + 2, none⟩ = some (.int .i64 n) := fun y => y.cell c5
          clear c0 c1 c2 c3 c4 c5
          go_upto_region 12 with fail
          refine wp_region_ext (by kernel_rfl) (by kernel_rfl) ?_
          repeat (go_big_quiet_step (fail))
          refine wpQuiet_nil ?_
          intro _ hw'
          obtain ⟨xq, hw''⟩ := hw'
          subst hw''
          have HW2 := Lib.hid (below_step HKP.out xq.h)
          clear d0 d1 d2 d3 d4 d5
          go_wp2_with fail
          go_roundw
          case rel => exact ⟨k + 1, by omega, by go_num, HW2.out⟩
          case measure => simp [intOf]; omega
        · have e : k = ls.length := by omega
          subst e
          have t0 : ¬ ls.length < ls.length := by omega
          go_wp2_with fail
          go_returns
          exact ⟨rfl, below_step B3.out HKP.out⟩
end Go.Proofs.Ytokfcndhmbkelaa
