/- The walk of the reference's Split. -/
import Derived.Test.YtokfcndhmbkelaaRuRef
namespace Go.Proofs.Ytokfcndhmbkelaa
open Go.RowKit
def RSplitRes (w : World) (base : Nat) (v : Value) (n : Int) : Except Nat (List Ln) → Prop
  | .error k => v = .slice none 0 0 ∧ n = k
  | .ok ls => LinesAt w base v ls ∧ n = -1
theorem info_rline : (Try.prog.info? 32).map (fun i => (i.zero, i.size, i.bytes)) = some (some (.agg #[.string ⟨#[]⟩, .string ⟨#[]⟩, .int .i64 0]), 3, 40) := by kernel_rfl
def RsInv (l : List UInt8) (w wr : World) (v4 v5 : Value) : Prop :=
  ∃ (a f : Nat) (acc : List Ln), v5 = .int .i64 a ∧ a ≤ l.length + 1 ∧ wr.ownsRow w.heap.size 32 3 v4 acc.length (lnCells acc) ∧ acc.length ≤ 8 ∧ l.length < f + a ∧
    runF (l.length + 1) l 0 [] = (if a ≤ l.length then runF f (l.drop a) a acc else .ok acc) ∧ Below w.heap.size w wr
theorem rsNext {l : List UInt8} {a f : Nat} {acc' : List Ln} {w wr' : World} {v4 : Value} (ha : a ≤ l.length) (hf : l.length < f + 1 + a)
    (h : runF (l.length + 1) l 0 [] = (if (lineB (l.drop a)).length = (l.drop a).length then .ok acc' else runF f ((l.drop a).drop ((lineB (l.drop a)).length + 1)) (a + (lineB (l.drop a)).length + 1) acc'))
    (ho : wr'.ownsRow w.heap.size 32 3 v4 acc'.length (lnCells acc')) (h8 : acc'.length ≤ 8) (hb : Below w.heap.size w wr') :
    RsInv l w wr' v4 (.int .i64 ((endN l a : Nat) + 1)) := by
  have hle := lineB_le (l.drop a)
  have hdl : (l.drop a).length = l.length - a := List.length_drop ..
  refine ⟨endN l a + 1, f, acc', rfl, ?_, ho, h8, ?_, ?_, hb⟩
  · unfold endN; omega
  · unfold endN; omega
  · rw [h]
    unfold endN
    by_cases e : (lineB (l.drop a)).length = (l.drop a).length
    · rw [if_pos e, if_neg (by omega)]
    · rw [if_neg e, if_pos (by omega), List.drop_drop, Nat.add_assoc]
theorem splitB_err {l : List UInt8} (h : ¬ 1000 < l.length) {k : Nat} (e : runF (l.length + 1) l 0 [] = .error k) : splitB l = .error k := by unfold splitB; rw [if_neg h, e]
theorem splitB_ok {l : List UInt8} (h : ¬ 1000 < l.length) {acc : List Ln} (e : runF (l.length + 1) l 0 [] = .ok acc) : splitB l = if acc.length = 0 then .error l.length else .ok acc := by unfold splitB; rw [if_neg h, e]
set_option maxHeartbeats 4000000 in
set_option maxRecDepth 100000 in
theorem rsplit_c (l : List UInt8) (hl : l.length ≤ 1000000) (w : World) : Calls Try.prog 10 #[str l] w fun e w' => ∃ v n, e = .returned (.tuple #[v, .int .i64 n]) ∧ RSplitRes w' w.heap.size v n (splitB l) ∧ Below w.heap.size w w' := by
  have hs := mk_size l
  have hg := mk_get l
  have HE := Lib.hid (fun a (ha : a ≤ l.length) w1 => end_c l hl a ha w1)
  have HRU := Lib.hid (fun a t (h1 : a ≤ t) (h2 : t ≤ l.length) w1 => rule_c l hl a t h1 h2 w1)
  unfold str at *
  by_cases hbig : 1000 < l.length
  · have X := Lib.hid (show splitB l = .error 1000 by unfold splitB; rw [if_pos hbig])
    generalize (ByteArray.mk l.toArray) = s at *
    have t1 : decide ((1000 : Int) < (s.size : Int)) = true := by simp; omega
    clear hbig hs hg HE HRU
    go_enter Try.func10, Try.ntmps10
    go_wp2_with fail
    go_returns
    refine ⟨_, _, rfl, ?_, Below.refl _ _⟩
    rw [X.out]
    exact ⟨rfl, rfl⟩
  · have XE := Lib.hid (fun k e => splitB_err (k := k) hbig e)
    have XO := Lib.hid (fun acc e => splitB_ok (acc := acc) hbig e)
    have I0 := Lib.hid (show RsInv l w w (.slice none 0 0) (.int .i64 0) from ⟨0, l.length + 1, [], rfl, by omega, World.ownsRow_nil _ _ _ _, by simp, by omega, by rw [if_pos (by omega)]; rfl, Below.refl _ _⟩)
    obtain ⟨i0, hi, hz0, hz1, hz2⟩ := info_parts info_rline
    generalize (ByteArray.mk l.toArray) = s at *
    have HS := Lib.hid hs
    have HG := Lib.hid hg
    have hsm : s.size ≤ 1000 := by omega
    have t1 : decide ((1000 : Int) < (s.size : Int)) = false := by simp; omega
    clear hbig hs hg
    go_enter Try.func10, Try.ntmps10
    go_wp2_with fail
    go_loopw [4, 5] (fun v4 v5 wr => RsInv l w wr v4 v5) (fun _ v5 _ => l.length + 2 - (intOf v5).toNat)
    case atStart => exact I0.out
    case round =>
      obtain ⟨a, f, acc, rfl, ha, hown, ha8, hf, hrun, hw⟩ := hrel
      have HO := Lib.hid hown
      have HW := Lib.hid hw
      have HRUN := Lib.hid hrun
      clear hown hw hrun I0
      by_cases hle : a ≤ l.length
      · have RU := Lib.hid (show runF (l.length + 1) l 0 [] = runF f (l.drop a) a acc by rw [HRUN.out, if_pos hle])
        obtain ⟨f', rfl⟩ : ∃ f', f = f' + 1 := ⟨f - 1, by omega⟩
        have RU' := Lib.hid (RU.out.trans (runF.eq_2 _ _ _ _))
        have hle2 := lineB_le (l.drop a)
        have hdl : (l.drop a).length = l.length - a := List.length_drop ..
        have NX := Lib.hid (fun acc' v4 wr' h ho h8 hb => rsNext (w := w) (wr' := wr') (v4 := v4) (acc' := acc') (f := f') hle hf h ho h8 hb)
        have hlt : ((l.drop a).take (endN l a - a)) = lineB (l.drop a) := by
          rw [show endN l a - a = (lineB (l.drop a)).length from by unfold endN; omega]; exact lineB_take _
        have EN := HE.out a hle
        have RN := Lib.hid (HRU.out a (endN l a) (by unfold endN; omega) (by unfold endN; omega))
        rw [hlt] at RN
        have hte : endN l a = a + (lineB (l.drop a)).length := rfl
        obtain ⟨line, hline⟩ : ∃ line, line = lineB (l.drop a) := ⟨_, rfl⟩
        rw [← hline] at RN RU' NX hte hle2
        have hn0 : 0 < line.length → nth line 0 = nth l a := fun h => by
          have e := lineB_take (l.drop a)
          rw [← hline] at e
          have := nth_line (l := l) (a := a) h
          rw [e] at this
          exact this
        obtain ⟨t, ht⟩ : ∃ t, t = endN l a := ⟨_, rfl⟩
        rw [← ht] at EN RN NX hte
        have hta : a ≤ t := by omega
        have htl : t ≤ l.length := by omega
        have EN' := Lib.hid EN
        obtain ⟨ao, cap, rfl, -⟩ := own_form HO.out
        have t2 : decide (a ≤ s.size) = true := by have := HS.out; simp; omega
        have GL := Lib.hid (show l.length + 2 - (t + 1) < l.length + 2 - a by omega)
        clear hline ht hlt EN HE HRU
        have HTE := Lib.hid hte
        clear hte
        by_cases hsk : skipB line = true
        · have RX := Lib.hid (RU'.out.trans (if_pos hsk))
          have NX' := Lib.hid (NX.out _ _ wr RX.out HO.out ha8 HW.out)
          by_cases hem : line.length = 0
          · have hat : a = t := by have := HTE.out; omega
            have t3 : ((a : Int) == (t : Nat)) = true := by rw [← hat, beq_self_eq_true]
            clear hsk hem hn0 hat NX RU' RN
            go_wp2_with fail
            refine (EN'.out _).mono ?_; rintro e w1 ⟨rfl, rfl⟩
            go_wp2_with fail
            refine (EN'.out _).mono ?_; rintro e w1 ⟨rfl, rfl⟩
            go_wp2_with fail
            go_roundw
            case rel => exact NX'.out
            case measure => have := GL.out; simp [intOf]; omega
          · have hat : a ≠ t := by have := HTE.out; omega
            have t3 : ((a : Int) == (t : Nat)) = false := by rw [beq_eq_false_iff_ne]; omega
            have h35 : nth l a = 35 := by
              rw [← hn0 (by omega)]
              unfold skipB at hsk
              rw [show line.isEmpty = false from by cases line with | nil => exact absurd rfl hem | cons _ _ => rfl] at hsk
              simpa using hsk
            have has : a < s.size := by have := HS.out; omega
            have e1 := HG.out a has
            have t4 : ((nth l a : Int) == 35) = true := by rw [h35]; rfl
            clear hsk hem hn0 hat NX RU' RN h35
            go_wp2_with fail
            refine (EN'.out _).mono ?_; rintro e w1 ⟨rfl, rfl⟩
            go_wp2_with fail
            refine (EN'.out _).mono ?_; rintro e w1 ⟨rfl, rfl⟩
            go_wp2_with fail
            go_roundw
            case rel => exact NX'.out
            case measure => have := GL.out; simp [intOf]; omega
        · have RX := Lib.hid (RU'.out.trans (if_neg hsk))
          have hem : 0 < line.length := by
            cases h : line with
            | nil => exact absurd (by rw [h]; rfl) hsk
            | cons _ _ => simp
          have t3 : ((a : Int) == (t : Nat)) = false := by have := HTE.out; rw [beq_eq_false_iff_ne]; omega
          have has : a < s.size := by have := HS.out; have := HTE.out; omega
          have e1 := HG.out a has
          have t4 : ((nth l a : Int) == 35) = false := by
            rw [beq_eq_false_iff_ne]; intro h
            apply hsk; unfold skipB; rw [hn0 hem, show nth l a = 35 from by omega]; simp
          clear hsk hem hn0 RU'
          go_wp2_with fail
          refine (EN'.out _).mono ?_; rintro e w1 ⟨rfl, rfl⟩
          go_wp2_with fail
          refine (RN.out _).mono ?_; rintro e w1 ⟨rfl, hb1⟩
          have HW1 := Lib.hid (below_step HW.out hb1)
          have HO1 := Lib.hid (own_below HO.out hb1)
          clear hb1 e1 t4 t3
          by_cases hbad : badB line = true
          · have XX := Lib.hid (XE.out _ (RX.out.trans (if_pos hbad)))
            rw [show ruleV line a = (.agg #[.string ⟨#[]⟩, .string ⟨#[]⟩, .int .i64 0], ((a + headN 12 line : Nat) : Int)) from by unfold ruleV; rw [if_pos hbad]]
            have t5 : decide ((0 : Int) ≤ ((a + headN 12 line : Nat) : Int)) = true := decide_eq_true (Int.natCast_nonneg _)
            obtain ⟨p, hp⟩ : ∃ p, p = a + headN 12 line := ⟨_, rfl⟩
            rw [← hp] at XX t5 ⊢
            clear hbad hp NX RX
            go_wp2_with fail
            go_returns
            refine ⟨_, _, rfl, ?_, below_alloc HW1.out _⟩
            rw [XX.out]
            exact ⟨rfl, rfl⟩
          · have RY := Lib.hid (RX.out.trans (if_neg hbad))
            rw [show ruleV line a = (.agg #[str (lnOf line a).name, str (lnOf line a).text, .int .i64 (lnOf line a).at_], -1) from by unfold ruleV; rw [if_neg hbad]]
            have FC := Lib.hid (fun w2 (h : LinesAt w2 w.heap.size (.slice ao acc.length cap) acc) => find_c acc (by omega) (lnOf line a).name w.heap.size _ w2 h)
            have CE := Lib.hid (show lnCells acc ++ [str (lnOf line a).name, str (lnOf line a).text, .int .i64 (lnOf line a).at_] = lnCells (acc ++ [lnOf line a]) by rw [lnCells_snoc]; rfl)
            unfold str at *
            have hlns := lnCells_len acc
            generalize (⟨(lnOf line a).name.toArray⟩ : ByteArray) = s3 at *
            generalize (⟨(lnOf line a).text.toArray⟩ : ByteArray) = s4 at *
            have AT := Lib.hid (show (lnOf line a).at_ = (lnOf line a).at_ from rfl)
            obtain ⟨z, hz⟩ : ∃ z, z = (lnOf line a).at_ := ⟨_, rfl⟩
            rw [← hz] at CE ⊢
            have LW := Lib.hid ((LinesAt.own HO1.out).below (below_alloc (Below.refl _ _) (.cells #[.string s3, .string s4, .int .i64 z] 32)))
            clear hbad RX AT hz
            go_wp2_with fail
            refine (FC.out _ LW.out).mono ?_; rintro e w2 ⟨rfl, rfl⟩
            by_cases hth : hasName acc (lnOf line a).name = true
            · have XX := Lib.hid (XE.out _ (RY.out.trans (if_pos (.inr hth))))
              rw [hth]
              clear hth NX RY
              go_wp2_with fail
              go_returns
              refine ⟨_, _, rfl, ?_, below_alloc HW1.out _⟩
              rw [XX.out]
              exact ⟨rfl, rfl⟩
            · rw [Bool.eq_false_iff.2 hth]
              by_cases h8 : acc.length = 8
              · have XX := Lib.hid (XE.out _ (RY.out.trans (if_pos (.inl h8))))
                have t6 : ((acc.length : Int) == 8) = true := by rw [h8]; rfl
                clear hth NX RY h8
                go_wp2_with fail
                go_returns
                refine ⟨_, _, rfl, ?_, below_alloc HW1.out _⟩
                rw [XX.out]
                exact ⟨rfl, rfl⟩
              · have RZ := Lib.hid (RY.out.trans (if_neg (fun h => h.elim h8 hth)))
                have t6 : ((acc.length : Int) == 8) = false := by rw [beq_eq_false_iff_ne]; omega
                have h88 : acc.length < 8 := by omega
                have NX' := Lib.hid (fun v4 wr' ho hb => NX.out _ v4 wr' RZ.out ho (by simp; omega) hb)
                have hbs := HW1.out.size
                clear hth NX RY h8 RZ
                go_wp2_with (at_builtin; refine wpList_append_own _ rfl _ _ 27 rfl w.heap.size 32 i0 (.agg #[.string ⟨#[]⟩, .string ⟨#[]⟩, .int .i64 0]) 3 40 Try.underlying27 hi hz0 hz1 hz2 rfl (by decide) _ _ _ rfl ((HO1.out.alloc _).alloc _) ⟨_, 0, none⟩ 1 1 [.string s3, .string s4, .int .i64 z] rfl rfl ?c1 ?c2 ?c3 ?c4 ?c5 ?_)
                case c1 => exact World.news_of_block (cs := #[.string s3, .string s4, .int .i64 z]) (t := 32) (fr := (0, 0)) (by have h := heap_alloc_new (w1.alloc (.cells #[.string s3, .string s4, .int .i64 z] 32)) (.cells #[.string s3, .string s4, .int .i64 z] 32); rw [World.size_alloc] at h; exact h)
                case c2 => intro u hu; simp at hu; rcases hu with rfl | rfl | rfl <;> rfl
                case c3 => unfold maxLen; omega
                case c4 => omega
                case c5 => first | omega | (simp; omega) | simp
                intro v' w3 hown3 hgrow _
                have HW3 := Lib.hid (Below.ofGrown (below_alloc (below_alloc HW1.out _) _) ((HO1.out.alloc _).alloc _) hgrow (Nat.le_refl _) (by first | omega | (simp; omega)))
                rw [CE.out, show acc.length + 1 = (acc ++ [lnOf line a]).length from by simp] at hown3
                have NX2 := Lib.hid (NX'.out _ w3 hown3 HW3.out)
                clear hown3 hgrow CE NX' HW3
                go_wp2_with fail
                refine (EN'.out _).mono ?_; rintro e w4 ⟨rfl, rfl⟩
                go_wp2_with fail
                go_roundw
                case rel => exact NX2.out
                case measure => have := GL.out; simp [intOf]; omega
      · have RU := Lib.hid (show runF (l.length + 1) l 0 [] = .ok acc by rw [HRUN.out, if_neg hle])
        obtain ⟨ao, cap, rfl, -⟩ := own_form HO.out
        have t2 : decide (a ≤ s.size) = false := by have := HS.out; simp; omega
        by_cases h0 : acc.length = 0
        · have t3 : ((acc.length : Int) == 0) = true := by rw [h0]; rfl
          have XX := Lib.hid (show splitB l = .error l.length by rw [XO.out _ RU.out]; rw [if_pos h0])
          clear h0
          go_wp2_with fail
          go_returns
          refine ⟨_, _, rfl, ?_, HW.out⟩
          rw [XX.out]
          exact ⟨rfl, by have := HS.out; omega⟩
        · have t3 : ((acc.length : Int) == 0) = false := by rw [beq_eq_false_iff_ne]; omega
          have XX := Lib.hid (show splitB l = .ok acc by rw [XO.out _ RU.out]; rw [if_neg h0])
          clear h0
          go_wp2_with fail
          go_returns
          refine ⟨_, _, rfl, ?_, HW.out⟩
          rw [XX.out]
          exact ⟨LinesAt.own HO.out, rfl⟩
end Go.Proofs.Ytokfcndhmbkelaa
