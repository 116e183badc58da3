/- The walk of rules.Split. -/
import Derived.Test.YtokfcndhmbkelaaRuCut
import Derived.Test.YtokfcndhmbkelaaTail
import Derived.Deep.RegionHeld3
import Derived.Deep.AppendLies
import Derived.WalkMore
namespace Go.Proofs.Ytokfcndhmbkelaa
open Go.RowKit
def skipB (l : List UInt8) : Bool := l.isEmpty || (nth l 0 == 35)
def badB (l : List UInt8) : Bool := headN 12 l == 0 || (headN 12 l == l.length || nth l (headN 12 l) != 58)
def lnOf (l : List UInt8) (a : Nat) : Ln := ⟨l.take (headN 12 l), l.drop (headN 12 l + 1), ((a + headN 12 l + 1 : Nat) : Int)⟩
/-- The lines of a text, one behind the other. -/
def runF : Nat → List UInt8 → Nat → List Ln → Except Nat (List Ln)
  | 0, _, _, acc => .ok acc
  | f + 1, l, a, acc =>
    if skipB (lineB l) = true then (if (lineB l).length = l.length then .ok acc else runF f (l.drop ((lineB l).length + 1)) (a + (lineB l).length + 1) acc)
    else if badB (lineB l) = true then .error (a + headN 12 (lineB l))
    else if acc.length = 8 ∨ hasName acc (lnOf (lineB l) a).name = true then .error a
    else if (lineB l).length = l.length then .ok (acc ++ [lnOf (lineB l) a]) else runF f (l.drop ((lineB l).length + 1)) (a + (lineB l).length + 1) (acc ++ [lnOf (lineB l) a])
def splitB (l : List UInt8) : Except Nat (List Ln) :=
  if 1000 < l.length then .error 1000 else match runF (l.length + 1) l 0 [] with
    | .error k => .error k
    | .ok acc => if acc.length = 0 then .error l.length else .ok acc
def SplitRes (w : World) (base : Nat) (v : Value) (n e : Int) : Except Nat (List Ln) → Prop
  | .error k => v = .slice none 0 0 ∧ n = k ∧ e = 6
  | .ok ls => LinesAt w base v ls ∧ n = 0 ∧ e = 0
theorem info_line : (Try.prog.info? 31).map (fun i => (i.zero, i.size, i.bytes)) = some (some (.agg #[.string ⟨#[]⟩, .string ⟨#[]⟩, .int .i64 0]), 3, 40) := by kernel_rfl
/-- What holds at the loop's head. -/
def SpInv (l : List UInt8) (w wr : World) (gk : Nat) (v2 v5 v6 : Value) : Prop :=
  ∃ (rest : List UInt8) (acc : List Ln) (more : Bool) (f : Nat), v5 = str rest ∧ v6 = .bool more ∧ rest.length ≤ l.length ∧ rest.length < f ∧ gk = (if more then rest.length + 1 else 0) ∧
    runF (l.length + 1) l 0 [] = (if more then runF f rest (l.length - rest.length) acc else .ok acc) ∧ wr.ownsRow w.heap.size 31 3 v2 acc.length (lnCells acc) ∧ acc.length ≤ 8 ∧ Below w.heap.size w wr
theorem spNext {l rest line : List UInt8} {acc' : List Ln} {f' : Nat} {w wr' : World} {v2 : Value} (hl : rest.length ≤ l.length) (hf : rest.length < f' + 1) (hll : line.length ≤ rest.length)
    (h : runF (l.length + 1) l 0 [] = (if line.length = rest.length then .ok acc' else runF f' (rest.drop (line.length + 1)) (l.length - rest.length + line.length + 1) acc'))
    (ho : wr'.ownsRow w.heap.size 31 3 v2 acc'.length (lnCells acc')) (h8 : acc'.length ≤ 8) (hb : Below w.heap.size w wr') :
    SpInv l w wr' (if line.length = rest.length then 0 else rest.length - line.length) v2 (.string ⟨(rest.drop (line.length + 1)).toArray⟩) (.bool (line.length != rest.length)) := by
  have hrd : (rest.drop (line.length + 1)).length = rest.length - (line.length + 1) := List.length_drop ..
  by_cases e : line.length = rest.length
  · rw [if_pos e] at h
    refine ⟨_, acc', _, f' + 1, rfl, rfl, by omega, by omega, ?_, ?_, ho, h8, hb⟩
    · rw [if_pos e, e]; simp
    · rw [h, e]; simp
  · rw [if_neg e] at h
    refine ⟨_, acc', _, f', rfl, rfl, by omega, by omega, ?_, ?_, ho, h8, hb⟩
    · rw [if_neg e, show (line.length != rest.length) = true from by simpa using e, if_pos rfl, hrd]; omega
    · rw [h, show (line.length != rest.length) = true from by simpa using e, if_pos rfl, hrd, show l.length - (rest.length - (line.length + 1)) = l.length - rest.length + line.length + 1 from by omega]
theorem gkLess (a b : Nat) : (if a = b then 0 else b - a) < b + 1 := by split <;> omega
theorem wrapSmall {n : Int} (h : -4000000 ≤ n) (h2 : n ≤ 4000000) : IntKind.i64.wrap n = n := by rw [IntKind.wrap_i64]; omega
set_option maxHeartbeats 4000000 in
set_option maxRecDepth 100000 in
theorem split_c (l : List UInt8) (hl : l.length ≤ 1000000) (w : World) : Calls Try.prog 9 #[str l] w fun e w' => ∃ v n k, e = .returned (.tuple #[v, .int .i64 n, .int .i64 k]) ∧ SplitRes w' w.heap.size v n k (splitB l) ∧ Below w.heap.size w w' := by
  unfold str
  have hs := mk_size l
  have HSTR := Lib.hid (show (⟨l.toArray⟩ : ByteArray) = ⟨l.toArray⟩ from rfl)
  by_cases hbig : 1000 < l.length
  · have X := Lib.hid (show splitB l = .error 1000 by unfold splitB; rw [if_pos hbig])
    generalize (ByteArray.mk l.toArray) = s at *
    have t1 : decide ((1000 : Int) < (s.size : Int)) = true := by simp; omega
    clear hbig hs HSTR
    go_enter Try.func9, Try.ntmps9
    go_wp2_with fail
    go_step3
    go_wp2_with fail
    (try rw [Exit.noGoto_ret])
    go_ret3
    refine ⟨_, _, _, rfl, ?_, Below.refl _ _⟩
    rw [X.out]
    exact ⟨rfl, rfl, rfl⟩
  · have X := Lib.hid (show splitB l = (match runF (l.length + 1) l 0 [] with | .error k => .error k | .ok acc => if acc.length = 0 then .error l.length else .ok acc) by unfold splitB; rw [if_neg hbig])
    have t1 : decide ((1000 : Int) < ((⟨l.toArray⟩ : ByteArray).size : Int)) = false := by simp; omega
    have I0 := Lib.hid (show SpInv l w w (l.length + 1) (.slice none 0 0) (.string ⟨l.toArray⟩) (.bool true) from ⟨l, [], true, l.length + 1, rfl, rfl, Nat.le_refl _, by omega, rfl, by rw [Nat.sub_self]; rfl, World.ownsRow_nil _ _ _ _, by simp, Below.refl _ _⟩)
    obtain ⟨i0, hi, hz0, hz1, hz2⟩ := info_parts info_line
    generalize (ByteArray.mk l.toArray) = s at *
    have HS := Lib.hid hs
    have hsm : s.size ≤ 1000 := by omega
    clear hbig hs HSTR
    go_enter Try.func9, Try.ntmps9
    go_wp2_with fail
    go_step3
    go_wp2_with fail
    go_step3
    go_wp2_with fail
    go_loopg [2, 5, 6] (l.length + 1) (fun gk v2 v5 v6 wr => SpInv l w wr gk v2 v5 v6)
    case atStart => exact I0.out
    case round =>
      obtain ⟨rest, acc, more, f, rfl, rfl, hrl, hf, hgk, hrun, hown, ha8, hw⟩ := hrel
      have HW := Lib.hid hw
      have HO := Lib.hid hown
      have HG := Lib.hid hgk
      have HRUN := Lib.hid hrun
      clear hw hown hgk hrun I0
      cases more with
      | false =>
        have RU := Lib.hid (show runF (l.length + 1) l 0 [] = .ok acc from HRUN.out)
        obtain ⟨ao, cap, rfl, -⟩ := own_form HO.out
        by_cases h0 : acc.length = 0
        · have t2 : ((acc.length : Int) == 0) = true := by rw [h0]; rfl
          have XX := Lib.hid (show splitB l = .error l.length by rw [X.out, RU.out]; simp only []; rw [if_pos h0])
          have HL := Lib.hid (show (s.size : Int) = (l.length : Nat) by have := HS.out; omega)
          clear h0
          go_wp2_with fail
          (try rw [Exit.noGoto_ret])
          go_ret3
          refine ⟨_, _, _, rfl, ?_, HW.out⟩
          rw [XX.out]
          exact ⟨rfl, HL.out, rfl⟩
        · have t2 : ((acc.length : Int) == 0) = false := by rw [beq_eq_false_iff_ne]; omega
          have XX := Lib.hid (show splitB l = .ok acc by rw [X.out, RU.out]; simp only []; rw [if_neg h0])
          clear h0
          go_wp2_with fail
          (try rw [Exit.noGoto_ret])
          go_ret3
          refine ⟨_, _, _, rfl, ?_, HW.out⟩
          rw [XX.out]
          exact ⟨LinesAt.own HO.out, rfl, rfl⟩
      | true =>
        obtain ⟨f', rfl⟩ : ∃ f', f = f' + 1 := ⟨f - 1, by omega⟩
        have hrs := mk_size rest
        have hss := HS.out
        have CC := cut_c rest (by omega) wr
        have hll := lineB_le rest
        have hpos : l.length - rest.length ≤ 1000 := by omega
        obtain ⟨pos, hps⟩ : ∃ pos, pos = l.length - rest.length := ⟨_, rfl⟩
        -- the line
        obtain ⟨line, hline⟩ : ∃ line, line = lineB rest := ⟨_, rfl⟩
        have hls := mk_size line
        have hlg := mk_get line
        have hle := str_eq_nil line
        obtain ⟨hn12, hln12⟩ := headN_le 12 line
        rw [← hline] at hll
        have HCF := Lib.hid (fun w1 => head_c line (by omega) w1)
        obtain ⟨ao, cap, rfl, -⟩ := own_form HO.out
        have hcut : cutB rest = (line, rest.drop (line.length + 1), line.length != rest.length) := by rw [hline]; rfl
        rw [hcut] at CC
        have eX := mk_extract line 0 (headN 12 line)
        have eY := mk_to_end line (headN 12 line + 1) line.length (Nat.le_refl _)
        rw [List.drop_zero, Nat.sub_zero] at eX
        rw [← hls] at eY
        have EX := Lib.hid eX
        have EY := Lib.hid eY
        have RU := Lib.hid (show runF (l.length + 1) l 0 [] = _ from HRUN.out)
        have RU' := Lib.hid (RU.out.trans (show runF (f' + 1) rest (l.length - rest.length) acc = _ from runF.eq_2 _ _ _ _))
        rw [← hline] at RU'
        have GK := Lib.hid (show gk = rest.length + 1 from HG.out)
        have hrd : (rest.drop (line.length + 1)).length = rest.length - (line.length + 1) := List.length_drop ..
        have NX := Lib.hid (fun acc' v2 wr' h ho h8 hb => spNext (w := w) (wr' := wr') (v2 := v2) (acc' := acc') hrl hf hll h ho h8 hb)
        have HPOS := Lib.hid (show ((s.size : Int) - (rest.length : Nat)) = ((l.length - rest.length : Nat) : Int) by omega)
        have hrs' : rest.length ≤ s.size := by omega
        have HTH := Lib.hid (fun w1 (h : LinesAt w1 w.heap.size (.slice ao acc.length cap) acc) => there_c acc (by omega) (line.take (headN 12 line)) w.heap.size _ w1 h)
        have GL := Lib.hid (gkLess line.length rest.length)
        unfold str at *
        clear eX eY RU
        generalize (⟨(rest.drop (line.length + 1)).toArray⟩ : ByteArray) = s2 at *
        generalize (⟨line.toArray⟩ : ByteArray) = s1 at *
        generalize (⟨rest.toArray⟩ : ByteArray) = rs at *
        have CC' := Lib.hid CC
        have HLG := Lib.hid hlg
        have HLE := Lib.hid hle
        clear CC hlg hle hcut hline hss hps hpos pos
        go_wp2_with fail
        refine CC'.out.mono ?_; rintro e w1 ⟨rfl, m, rfl⟩
        have HOD := Lib.hid (own_below HO.out (below_draws (Below.refl _ _) m))
        have HWD := Lib.hid (below_draws HW.out m)
        by_cases hsk : skipB line = true
        · have RX := Lib.hid (RU'.out.trans (if_pos hsk))
          have NX' := Lib.hid (NX.out _ _ (wr.drewN m) RX.out HOD.out ha8 HWD.out)
          by_cases hem : line.isEmpty = true
          · have h2 : s1.toList = [] := by rw [HLE.out]; exact List.isEmpty_iff.1 hem
            clear hsk hem NX CC' RU' HCF HTH EX EY HLG hln12
            go_wp2_with fail
            go_roundg (if line.length = rest.length then 0 else rest.length - line.length)
            case rel => exact NX'.out
            case measure => have := GK.out; have := GL.out; omega
          · have h1 : s1.toList.isEmpty = false := by rw [HLE.out]; simpa using hem
            have hlen : 0 < s1.size := by
              rw [hls]; cases line with
              | nil => exact absurd rfl hem
              | cons a t => simp
            have e0 := HLG.out 0 hlen
            have t2 : ((nth line 0 : Int) == 35) = true := by
              have : nth line 0 = 35 := by
                unfold skipB at hsk; rw [Bool.eq_false_iff.2 hem] at hsk; simpa using hsk
              rw [this]; rfl
            clear hsk hem NX CC' RU' HCF HTH EX EY HLG hln12
            go_wp2_with fail
            go_roundg (if line.length = rest.length then 0 else rest.length - line.length)
            case rel => exact NX'.out
            case measure => have := GK.out; have := GL.out; omega
        · have RX := Lib.hid (RU'.out.trans (if_neg hsk))
          have hem : line.isEmpty = false := by
            cases h : line.isEmpty with
            | false => rfl
            | true => exact absurd (by unfold skipB; rw [h]; rfl) hsk
          have h35 : nth line 0 ≠ 35 := by
            intro h; apply hsk; unfold skipB; rw [h]; simp
          have h1 : s1.toList.isEmpty = false := by rw [HLE.out]; exact hem
          have hlen : 0 < s1.size := by
            rw [hls]; cases line with
            | nil => exact absurd hem (by simp)
            | cons a t => simp
          have e0 := HLG.out 0 hlen
          have t2 : ((nth line 0 : Int) == 35) = false := by rw [beq_eq_false_iff_ne]; omega
          clear hsk hem h35 RU' CC'
          go_wp2_with fail
          clear e0 t2
          refine (HCF.out _).mono ?_; rintro e w1 ⟨rfl, rfl⟩
          have BAD := Lib.hid (fun (hb : badB line = true) => show splitB l = .error (l.length - rest.length + headN 12 line) by rw [X.out, RX.out, if_pos hb])
          by_cases hn0 : headN 12 line = 0
          · have t3 : ((headN 12 line : Int) == 0) = true := by rw [hn0]; rfl
            have XX := Lib.hid (BAD.out (by unfold badB; rw [hn0]; rfl))
            clear hn0 NX HTH EX EY HLG HCF BAD RX
            go_wp2_with fail
            (try rw [Exit.noGoto_ret])
            go_ret3
            refine ⟨_, _, _, rfl, ?_, HWD.out⟩
            rw [XX.out]
            exact ⟨rfl, by have := HPOS.out; omega, rfl⟩
          · have t3 : ((headN 12 line : Int) == 0) = false := by rw [beq_eq_false_iff_ne]; omega
            by_cases hnl : headN 12 line = line.length
            · have t4 : ((headN 12 line : Int) == (line.length : Nat)) = true := by rw [hnl, beq_self_eq_true]
              have XX := Lib.hid (BAD.out (by unfold badB; rw [show (headN 12 line == line.length) = true by rw [hnl, beq_self_eq_true]]; simp))
              clear hn0 hnl NX HTH EX EY HLG HCF BAD RX
              go_wp2_with fail
              (try rw [Exit.noGoto_ret])
              go_ret3
              refine ⟨_, _, _, rfl, ?_, HWD.out⟩
              rw [XX.out]
              exact ⟨rfl, by have := HPOS.out; omega, rfl⟩
            · have t4 : ((headN 12 line : Int) == (line.length : Nat)) = false := by rw [beq_eq_false_iff_ne]; omega
              have hlt : headN 12 line < s1.size := by omega
              have e1 := HLG.out _ hlt
              by_cases h58 : nth line (headN 12 line) = 58
              · have t5 : ((nth line (headN 12 line) : Int) != 58) = false := by rw [h58]; rfl
                have hb : ¬ badB line = true := by unfold badB; rw [h58]; simp; exact ⟨hn0, hnl⟩
                have RY := Lib.hid (RX.out.trans (if_neg hb))
                clear hn0 hnl h58 hb BAD RX HCF HLG
                by_cases h8 : acc.length = 8
                · have t6 : ((acc.length : Int) == 8) = true := by rw [h8]; rfl
                  have XX := Lib.hid (show splitB l = .error (l.length - rest.length) by rw [X.out, RY.out, if_pos (.inl h8)])
                  clear h8 NX HTH EX EY RY
                  go_wp2_with fail
                  (try rw [Exit.noGoto_ret])
                  go_ret3
                  refine ⟨_, _, _, rfl, ?_, HWD.out⟩
                  rw [XX.out]
                  exact ⟨rfl, by have := HPOS.out; omega, rfl⟩
                · have t6 : ((acc.length : Int) == 8) = false := by rw [beq_eq_false_iff_ne]; omega
                  have h88 : acc.length < 8 := by omega
                  have TH := HTH.out (wr.drewN m) ((LinesAt.own HO.out).below (below_draws (Below.refl _ _) m))
                  unfold str at TH
                  rw [← EX.out] at TH
                  have TH' := Lib.hid TH
                  clear TH HTH h8
                  go_wp2_with fail
                  refine TH'.out.mono ?_; rintro e w2 ⟨rfl, hb2⟩
                  have HO2 := Lib.hid (own_below HOD.out hb2)
                  have HW2 := Lib.hid (below_step HWD.out hb2)
                  clear hb2
                  by_cases hth : hasName acc (line.take (headN 12 line)) = true
                  · rw [hth]
                    have XX := Lib.hid (show splitB l = .error (l.length - rest.length) by rw [X.out, RY.out, if_pos (.inr hth)])
                    clear hth NX EX EY RY
                    go_wp2_with fail
                    (try rw [Exit.noGoto_ret])
                    go_ret3
                    refine ⟨_, _, _, rfl, ?_, HW2.out⟩
                    rw [XX.out]
                    exact ⟨rfl, by have := HPOS.out; omega, rfl⟩
                  · have RZ := Lib.hid (RY.out.trans (if_neg (show ¬ (acc.length = 8 ∨ hasName acc (lnOf line (l.length - rest.length)).name = true) from fun h => h.elim (by omega) hth)))
                    rw [Bool.eq_false_iff.2 hth]
                    clear hth RY
                    have t7 : (headN 12 line : Int) ≤ (s1.size : Nat) := by omega
                    have t8 : (headN 12 line : Int) + 1 ≤ (s1.size : Nat) := by omega
                    have CE := Lib.hid (show lnCells acc ++ [.string (s1.extract 0 (headN 12 line)), .string (s1.extract (headN 12 line + 1) s1.size), .int .i64 ((s.size : Int) - (rest.length : Nat) + (headN 12 line : Nat) + 1)] = lnCells (acc ++ [lnOf line (l.length - rest.length)]) by
                      rw [lnCells_snoc, EX.out, EY.out, HPOS.out]
                      show _ ++ [_, _, Value.int .i64 _] = _ ++ [_, _, Value.int .i64 _]
                      rfl)
                    have hbs := HW2.out.size
                    have HLS := Lib.hid hls
                    have hs1m : s1.size ≤ 1000000 := by omega
                    have hlm : l.length ≤ 1000 := by have := HS.out; omega
                    have hpm : l.length - rest.length ≤ 1000 := by omega
                    have wf1 : IntKind.i64.wrap ((headN 12 line : Int) + 1) = (headN 12 line : Int) + 1 := wrapSmall (by omega) (by omega)
                    have wf2 : IntKind.i64.wrap ((s.size : Int) - (rest.length : Nat) + (headN 12 line : Nat)) = (s.size : Int) - (rest.length : Nat) + (headN 12 line : Nat) := wrapSmall (by omega) (by omega)
                    have wf3 : IntKind.i64.wrap ((s.size : Int) - (rest.length : Nat) + (headN 12 line : Nat) + 1) = (s.size : Int) - (rest.length : Nat) + (headN 12 line : Nat) + 1 := wrapSmall (by omega) (by omega)
                    have wf4 : (0 : Int) ≤ (headN 12 line : Int) + 1 := by omega
                    have wf5 : (0 : Int) ≤ (headN 12 line : Int) := by omega
                    have wf6 : ((headN 12 line : Int) + 1).toNat = headN 12 line + 1 := by omega
                    clear e1 t4 t5 hls hlen hlt
                    have hlns := lnCells_len acc
                    clear EX EY
                    go_wp2_with fail
                    go_region_held3 (fun _ => True) (first | go_keep | trivial) (first
                      | (refine step_append_lies _ (by rfl) _ _ _ (by rfl) w.heap.size 31 i0 _ 3 40 Try.underlying23 hi hz0 hz1 hz2 rfl (by omega) (.slice ao acc.length cap) acc.length (lnCells acc) (by rfl) ((HO2.out.alloc _).drew) ⟨w2.heap.size, 0, none⟩ 1 1 [.string (s1.extract 0 (headN 12 line)), .string (s1.extract (headN 12 line + 1) s1.size), .int .i64 ((s.size : Int) - (rest.length : Nat) + (headN 12 line : Nat) + 1)] (by rfl) (by rfl) (World.news_of_block (cs := #[_, _, _]) (t := 31) (fr := (0, 0)) (heap_alloc_new w2 _)) (by simp [Value.oneCell']) (by omega) (by unfold maxLen; omega) (by omega) (by simp; omega) (w2.heap.size + 1) (by simp) ?_; intro g cap2 w3 hown3 hgrow hat hlt))
                    have hgg : w.heap.size ≤ g := by rcases hat with h | h; exact (HO2.out.lt g h).1; omega
                    have HO3 := hown3
                    rw [CE.out, show acc.length + 1 = (acc ++ [lnOf line (l.length - rest.length)]).length from by simp] at HO3
                    have HW3 := Below.ofGrown (below_draws (below_alloc HW2.out _) 1) ((HO2.out.alloc _).drew) hgrow (Nat.le_refl _) (by simp; omega)
                    have NX' := Lib.hid (NX.out _ _ w3 RZ.out HO3 (by simp; omega) HW3)
                    rw [show (acc ++ [lnOf line (l.length - rest.length)]).length = acc.length + 1 from by simp] at NX'
                    clear hown3 hgrow HO3 HW3 CE
                    go_wp2_with fail
                    go_roundg (if line.length = rest.length then 0 else rest.length - line.length)
                    case rel => exact NX'.out
                    case measure => have := GK.out; have := GL.out; omega
              · have t5 : ((nth line (headN 12 line) : Int) != 58) = true := by rw [bne_iff_ne]; omega
                have XX := Lib.hid (BAD.out (by unfold badB; simp; exact .inr (.inr h58)))
                clear hn0 hnl h58 NX HTH EX EY HLG HCF BAD RX
                go_wp2_with fail
                (try rw [Exit.noGoto_ret])
                go_ret3
                refine ⟨_, _, _, rfl, ?_, HWD.out⟩
                rw [XX.out]
                exact ⟨rfl, by have := HPOS.out; omega, rfl⟩
end Go.Proofs.Ytokfcndhmbkelaa
