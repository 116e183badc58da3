/- The reference's ReadResponse. -/
import Derived.Test.YtgcjfjmnccajeaaWire17
import Derived.Test.YtgcjfjmnccajeaaWire19
import Derived.Test.YtgcjfjmnccajeaaWire9
import Derived.Deep.RegionLaw
import Derived.Deep.AppendLies
import Derived.Deep.QuietTactic
import Derived.BigQuiet
namespace Go.Proofs.Ytgcjfjmnccajeaa
open Go.RowKit Go.Deep
def RRespE (s : List UInt8) (w : World) (e : Ending) (w' : World) : Prop :=
  (readR s = none ∧ e = .returned (.tuple #[.agg #[.int .i64 0, .int .i64 0, .slice none 0 0], .string { data := #[] }, .bool false])) ∨
  (∃ r rest v, readR s = some (r, rest) ∧ e = .returned (.tuple #[.agg #[.int .i64 r.err, .int .i64 r.at_, v], .string ⟨rest.toArray⟩, .bool true]) ∧ w'.ownsRow w.heap.size 78 3 v r.toks.length (tokCells r.toks))
theorem nums2 (l : List UInt8) (hl : l.length ≤ 1000000) (w : World) : Calls Try.prog 18 #[.string ⟨l.toArray⟩, .int .i64 2] w fun e w' => NumsE l 2 w e w' ∧ Below w.heap.size w w' := nums_c l hl 2 (by omega) w
theorem nums3 (l : List UInt8) (hl : l.length ≤ 1000000) (w : World) : Calls Try.prog 18 #[.string ⟨l.toArray⟩, .int .i64 3] w fun e w' => NumsE l 3 w e w' ∧ Below w.heap.size w w' := nums_c l hl 3 (by omega) w
set_option maxHeartbeats 2000000 in
set_option maxRecDepth 100000 in
theorem rreadR_nil (w : World) : Calls Try.prog 12 #[.string { data := #[] }] w fun e w' => RRespE [] w e w' ∧ Below w.heap.size w w' := by
  have RE := Lib.hid (fun e w' => RRespE.eq_1 [] w e w')
  go_enter Try.func12, Try.ntmps12
  go_wp2_with fail
  go_returns
  refine ⟨?_, below_alloc (Below.refl _ _) _⟩
  rw [RE.out]
  exact .inl ⟨rfl, rfl⟩
theorem readR_big {c : UInt8} {b : List UInt8} (h : 13 < c.toNat) : readR (c :: b) = none := by
  simp only [readR]
  rw [if_pos h]
theorem readR_none {c : UInt8} {b : List UInt8} (h : ¬ 13 < c.toNat) (hn : readNs most 2 b = none) : readR (c :: b) = none := by
  simp only [readR]
  rw [if_neg h, hn]
theorem readR_some {c : UInt8} {b r : List UInt8} {a n : Nat} (h : ¬ 13 < c.toNat) (hn : readNs most 2 b = some ([a, n], r)) : readR (c :: b) = if 4000 < n then none else match readTs n r with | none => none | some (l, r2) => some (⟨c.toNat, a, l⟩, r2) := by
  simp only [readR]
  rw [if_neg h, hn]
  rfl
def preT (acc : List (Int × Int × Int)) (x : Option (List (Int × Int × Int) × List UInt8)) : Option (List (Int × Int × Int) × List UInt8) := x.map fun p => (acc ++ p.1, p.2)
theorem preT_none {k : Nat} {s : List UInt8} {acc : List (Int × Int × Int)} (h : readT s = none) : preT acc (readTs (k + 1) s) = none := by
  show preT acc (match readT s with | none => none | some (t, r) => match readTs k r with | none => none | some (l, r2) => some (t :: l, r2)) = _
  rw [h]; rfl
theorem preT_step {k : Nat} {s r : List UInt8} {t : Int × Int × Int} {acc : List (Int × Int × Int)} (h : readT s = some (t, r)) : preT acc (readTs (k + 1) s) = preT (acc ++ [t]) (readTs k r) := by
  show preT acc (match readT s with | none => none | some (t, r) => match readTs k r with | none => none | some (l, r2) => some (t :: l, r2)) = _
  rw [h]
  cases hx : readTs k r with
  | none => simp only [hx]; rfl
  | some p => simp [preT, hx]
theorem readT_none {s : List UInt8} (h : readNs most 3 s = none) : readT s = none := by unfold readT; rw [h]
theorem readT_some {s r : List UInt8} {a b c : Nat} (h : readNs most 3 s = some ([a, b, c], r)) : readT s = if a ≤ 255 ∧ b + c ≤ most then some (((a : Int), (b : Int), (b : Int) + c), r) else none := by unfold readT; rw [h]
set_option maxHeartbeats 2000000 in
set_option maxRecDepth 100000 in
theorem rreadR_big (c : UInt8) (b : List UInt8) (hc : 13 < c.toNat) (w : World) : Calls Try.prog 12 #[.string ⟨(c :: b).toArray⟩] w fun e w' => RRespE (c :: b) w e w' ∧ Below w.heap.size w w' := by
  have RE := Lib.hid (fun e w' => RRespE.eq_1 (c :: b) w e w')
  have NO := Lib.hid (readR_big (b := b) hc)
  have HS2 := mk_size (c :: b)
  obtain ⟨s, hss⟩ : ∃ s, s = (⟨(c :: b).toArray⟩ : ByteArray) := ⟨_, rfl⟩
  have g0 : ∀ h, (s[0]'h).toNat = c.toNat := fun h => mk_byte hss 0 (by simp) h
  have hsz : s.size = b.length + 1 := by rw [hss]; exact HS2
  rw [← hss]
  clear hss HS2
  have h0s : 0 < s.size := by omega
  clear hsz
  have gk := g0 h0s
  clear g0
  have hcc := UInt8.toNat_lt c
  have t1 : decide ((s.size : Int) < 1) = false := by simp; omega
  have t2 : decide ((13 : Int) < (c.toNat : Int)) = true := by simp; omega
  clear hc
  go_enter Try.func12, Try.ntmps12
  go_wp2_with fail
  go_returns
  refine ⟨?_, below_alloc (Below.refl _ _) _⟩
  rw [RE.out]
  exact .inl ⟨NO.out, rfl⟩
set_option maxHeartbeats 4000000 in
set_option maxRecDepth 100000 in
theorem rreadR_c (c : UInt8) (b : List UInt8) (hl : b.length ≤ 1000000) (hc : ¬ 13 < c.toNat) (w : World) : Calls Try.prog 12 #[.string ⟨(c :: b).toArray⟩] w fun e w' => RRespE (c :: b) w e w' ∧ Below w.heap.size w w' := by
  obtain ⟨i0, hti, hz0, hz1, hz2⟩ := info_parts info_tok
  have RE := Lib.hid (fun e w' => RRespE.eq_1 (c :: b) w e w')
  have NO := Lib.hid (fun h => readR_none (b := b) hc h)
  have YES := Lib.hid (fun a n r h => readR_some (b := b) (r := r) (a := a) (n := n) hc h)
  generalize RRespE (c :: b) w = post at *
  generalize readR (c :: b) = rr at *
  have HS2 := mk_size (c :: b)
  obtain ⟨s, hss⟩ : ∃ s, s = (⟨(c :: b).toArray⟩ : ByteArray) := ⟨_, rfl⟩
  have g0 : ∀ h, (s[0]'h).toNat = c.toNat := fun h => mk_byte hss 0 (by simp) h
  have hsz : s.size = b.length + 1 := by rw [hss]; exact HS2
  have EX := Lib.hid (show s.extract 1 s.size = ⟨b.toArray⟩ from by rw [hss]; exact mk_to_end (c :: b) 1 _ (by rw [mk_size]; exact Nat.le_refl _))
  rw [← hss]
  clear hss HS2
  have h0s : 0 < s.size := by omega
  have hsl : s.size ≤ 1000001 := by omega
  have h1s : (1 : Int) ≤ (s.size : Nat) := by omega
  clear hsz
  have gk := g0 h0s
  clear g0
  have hcc := UInt8.toNat_lt c
  have t1 : decide ((s.size : Int) < 1) = false := by simp; omega
  have t2 : decide ((13 : Int) < (c.toNat : Int)) = false := by simp; omega
  clear hc
  have NC := Lib.hid (fun w1 => nums2 b hl w1)
  rw [← EX.out] at NC
  have B1 := Lib.hid (show Blk ((w.alloc (.cells #[.int .i64 0, .int .i64 0, .slice none 0 0] 36)).alloc (.cells #[.int .i64 c.toNat, .int .i64 0, .slice none 0 0] 36)) (w.heap.size + 1) 36 #[.int .i64 c.toNat, .int .i64 0, .slice none 0 0] from by
    have := Blk.made (w.alloc (.cells #[.int .i64 0, .int .i64 0, .slice none 0 0] 36)) 36 #[.int .i64 c.toNat, .int .i64 0, .slice none 0 0]
    rw [World.size_alloc] at this
    exact this)
  have B2 := Lib.hid (show Blk ((w.alloc (.cells #[.int .i64 0, .int .i64 0, .slice none 0 0] 36)).alloc (.cells #[.int .i64 c.toNat, .int .i64 0, .slice none 0 0] 36)) w.heap.size 36 #[.int .i64 0, .int .i64 0, .slice none 0 0] from Blk.alloc (Blk.made w _ _) _)
  have HW := Lib.hid (show Below w.heap.size w ((w.alloc (.cells #[.int .i64 0, .int .i64 0, .slice none 0 0] 36)).alloc (.cells #[.int .i64 c.toNat, .int .i64 0, .slice none 0 0] 36)) from below_alloc (below_alloc (Below.refl _ _) _) _)
  go_enter Try.func12, Try.ntmps12
  go_wp2_with fail
  refine (NC.out _).mono ?_
  rintro e w1 ⟨hE, hB⟩
  have R1 := Lib.hid (B1.out.below hB)
  have R2 := Lib.hid (B2.out.below hB)
  have HW1 := Lib.hid (below_step HW.out hB)
  have hlt := R1.out.lt
  clear B1 B2 HW NC
  rcases hE with ⟨hn, rfl⟩ | ⟨ls, r, v, hn, rfl, hown⟩
  · have RN := Lib.hid (NO.out hn)
    clear hB hn
    have y0 : w1.cell? ⟨w.heap.size, 0, none⟩ = some (.int .i64 0) := R2.out.cell 0
    have y1 : w1.cell? ⟨w.heap.size, 1, none⟩ = some (.int .i64 0) := R2.out.cell 1
    have y2 : w1.cell? ⟨w.heap.size, 2, none⟩ = some (.slice none 0 0) := R2.out.cell 2
    have f0 := R2.out.free 0
    have f1 := R2.out.free 1
    have f2 := R2.out.free 2
    go_wp2_with fail
    obtain ⟨wz, hwz⟩ : ∃ wz, wz = put3 w1 w.heap.size (.int .i64 0) (.int .i64 0) (.slice none 0 0) := ⟨_, rfl⟩
    have HZ := put3_blk R2.out (.int .i64 0) (.int .i64 0) (.slice none 0 0)
    have HP := put3_only w1 w.heap.size (.int .i64 0) (.int .i64 0) (.slice none 0 0)
    rw [← hwz] at HZ HP
    unfold put3 at hwz
    rw [← hwz]
    have z0 : wz.cell? ⟨w.heap.size, 0, none⟩ = some (.int .i64 0) := HZ.cell 0
    have z1 : wz.cell? ⟨w.heap.size, 1, none⟩ = some (.int .i64 0) := HZ.cell 1
    have z2 : wz.cell? ⟨w.heap.size, 2, none⟩ = some (.slice none 0 0) := HZ.cell 2
    have HPB := Lib.hid (below_only HW1.out HP)
    have HPO := Lib.hid HP
    clear hwz HZ HP
    exact bodyPost_ret (v := .tuple #[.agg #[.int .i64 0, .int .i64 0, .slice none 0 0], .string { data := #[] }, .bool false]) (by simp [results, Try.results12, go_sem, z0, z1, z2]) rfl ⟨by rw [RE.out]; exact .inl ⟨RN.out, rfl⟩, HPB.out⟩
  · have h5 := readNs_len most 2 b ls r hn
    match ls, h5 with
    | [a, n], _ =>
    have YS := Lib.hid (YES.out a n r hn)
    have hrb : r.length ≤ b.length := by
      have := congrArg List.length (readNs_take most (Nat.le_refl _) 2 b [a, n] r hn).1
      simp at this; omega
    have ham := (readNs_take most (Nat.le_refl _) 2 b [a, n] r hn).2 a (by simp)
    have hnm := (readNs_take most (Nat.le_refl _) 2 b [a, n] r hn).2 n (by simp)
    unfold most at ham hnm
    obtain ⟨ao, cap, rfl, hf⟩ := own_form hown
    obtain ⟨g, rfl, hg, hg2⟩ := hf (by simp)
    have cs := hown.cells (g := g) rfl
    have v0 : w1.cell? ⟨g, 0, none⟩ = some (.int .i64 a) := cs 0 _ rfl
    have v1 : w1.cell? ⟨g, 1, none⟩ = some (.int .i64 n) := cs 1 _ rfl
    have hgs : w.heap.size + 1 < g := by have : w.heap.size + 1 + 1 ≤ g := by simpa using hg
                                         omega
    clear cs hown hn hB hf hg NO YES
    by_cases h4 : 4000 < n
    · have e4 : decide ((4000 : Int) < (n : Int)) = true := by simp; omega
      have RN := Lib.hid (show rr = none from by rw [YS.out, if_pos h4])
      clear h4
      have y0 : w1.cell? ⟨w.heap.size, 0, none⟩ = some (.int .i64 0) := R2.out.cell 0
      have y1 : w1.cell? ⟨w.heap.size, 1, none⟩ = some (.int .i64 0) := R2.out.cell 1
      have y2 : w1.cell? ⟨w.heap.size, 2, none⟩ = some (.slice none 0 0) := R2.out.cell 2
      have f0 := R2.out.free 0
      have f1 := R2.out.free 1
      have f2 := R2.out.free 2
      go_wp2_with fail
      obtain ⟨wz, hwz⟩ : ∃ wz, wz = put3 w1 w.heap.size (.int .i64 0) (.int .i64 0) (.slice none 0 0) := ⟨_, rfl⟩
      have HZ := put3_blk R2.out (.int .i64 0) (.int .i64 0) (.slice none 0 0)
      have HP := put3_only w1 w.heap.size (.int .i64 0) (.int .i64 0) (.slice none 0 0)
      rw [← hwz] at HZ HP
      unfold put3 at hwz
      rw [← hwz]
      have z0 : wz.cell? ⟨w.heap.size, 0, none⟩ = some (.int .i64 0) := HZ.cell 0
      have z1 : wz.cell? ⟨w.heap.size, 1, none⟩ = some (.int .i64 0) := HZ.cell 1
      have z2 : wz.cell? ⟨w.heap.size, 2, none⟩ = some (.slice none 0 0) := HZ.cell 2
      have HPB := Lib.hid (below_only HW1.out HP)
      have HPO := Lib.hid HP
      clear hwz HZ HP
      exact bodyPost_ret (v := .tuple #[.agg #[.int .i64 0, .int .i64 0, .slice none 0 0], .string { data := #[] }, .bool false]) (by simp [results, Try.results12, go_sem, z0, z1, z2]) rfl ⟨by rw [RE.out]; exact .inl ⟨RN.out, rfl⟩, HPB.out⟩
    · have e4 : decide ((4000 : Int) < (n : Int)) = false := by simp; omega
      have YT := Lib.hid (YS.out.trans (if_neg h4))
      have hn4 : n ≤ 4000 := by omega
      clear h4 YS hnm
      have bx1 : w1.cell? ⟨w.heap.size + 1, 1, none⟩ = some (.int .i64 0) := R1.out.cell 1
      have bf1 := R1.out.free 1
      have Q1 := Lib.hid ((R1.out.set 1 (.int .i64 a)).cast (cs' := #[.int .i64 c.toNat, .int .i64 a, .slice none 0 0]) rfl)
      have Q2 := Lib.hid (R2.out.far (p := ⟨w.heap.size + 1, 1, none⟩) (by simp) (.int .i64 a))
      have Q3 := Lib.hid (below_put HW1.out (p := ⟨w.heap.size + 1, 1, none⟩) (by simp) (.int .i64 a))
      have Q4 : (w1.setCell ⟨w.heap.size + 1, 1, none⟩ (.int .i64 a)).cell? ⟨g, 1, none⟩ = some (.int .i64 n) := by
        rw [World.cell?_setCell_far _ _ _ _ (by show w.heap.size + 1 ≠ g; omega)]; exact v1
      have hgl : g < (w1.setCell ⟨w.heap.size + 1, 1, none⟩ (.int .i64 a)).heap.size := by simp [World.setCell]; exact hg2
      obtain ⟨w2, hw2⟩ : ∃ w2, w2 = w1.setCell ⟨w.heap.size + 1, 1, none⟩ (.int .i64 a) := ⟨_, rfl⟩
      go_wp2_with fail
      rw [← hw2]
      rw [← hw2] at Q1 Q2 Q3 Q4 hgl
      clear hw2 R1 R2 HW1 v0 v1 bx1 bf1 hlt
      have HQ4 := Lib.hid Q4
      have hw2s := Q3.out.size
      have hq1 := Q1.out.lt
      clear Q4
      go_loopw [0, 8, 9, 10, 11] (fun v0 v8 _ _ _ wr => ∃ (i : Nat) (acc : List (Int × Int × Int)) (r2 : List UInt8) (v : Value), i ≤ n ∧ v0 = .string ⟨r2.toArray⟩ ∧ v8 = .int .i64 i ∧ acc.length = i ∧ r2.length ≤ r.length ∧ readTs n r = preT acc (readTs (n - i) r2) ∧ Blk wr (w.heap.size + 1) 36 #[.int .i64 c.toNat, .int .i64 a, v] ∧ wr.ownsRow w2.heap.size 78 3 v acc.length (tokCells acc) ∧ Blk wr w.heap.size 36 #[.int .i64 0, .int .i64 0, .slice none 0 0] ∧ wr.cell? ⟨g, 1, none⟩ = some (.int .i64 n) ∧ Below w.heap.size w wr ∧ w2.heap.size ≤ wr.heap.size) (fun _ v8 _ _ _ _ => n - (intOf v8).toNat)
      case atStart => exact ⟨0, [], r, _, Nat.zero_le _, rfl, rfl, rfl, Nat.le_refl _, by unfold preT; cases readTs n r <;> simp, Q1.out, World.ownsRow_nil _ _ _ _, Q2.out, HQ4.out, Q3.out, Nat.le_refl _⟩
      case round =>
        clear HQ4 Q1 Q2 Q3
        obtain ⟨i, acc, r2, v, hi, rfl, rfl, rfl, hr2, heq, hbx, hown, hz, hn1, hbl, hsz⟩ := hrel
        obtain ⟨ao2, cap2, rfl, hff⟩ := own_form hown
        have HE := Lib.hid heq
        have HBX := Lib.hid hbx
        have HO := Lib.hid hown
        have HZR := Lib.hid hz
        have HN1 := Lib.hid hn1
        have HBL := Lib.hid hbl
        have HFF := Lib.hid (fun g (h : (Value.slice ao2 acc.length cap2).ownBlock = some g) => (hown.lt g h).1)
        have HFG := Lib.hid (fun g (h : (Value.slice ao2 acc.length cap2).ownBlock = some g) => (hown.lt g h).2)
        clear heq hbx hown hz hbl hff
        by_cases hlt : acc.length < n
        · have t3 : decide (acc.length < n) = true := by simp; omega
          have NC := Lib.hid (nums3 r2 (by omega) wr)
          have HK := Lib.hid (show n - acc.length = (n - (acc.length + 1)) + 1 from by omega)
          go_wp2_with fail
          refine NC.out.mono ?_
          rintro e w3 ⟨hE, hB⟩
          have P1 := Lib.hid (HBX.out.below hB)
          have P2 := Lib.hid (HZR.out.below hB)
          have P3 := Lib.hid (own_below HO.out hB)
          have P4 := Lib.hid (below_step HBL.out hB)
          have P5 := Lib.hid ((hB.cell (p := ⟨g, 1, none⟩) (by show g < wr.heap.size; omega)).trans HN1.out)
          have hs3 := hB.size
          clear HBX HZR HO HBL HN1 hn1 NC
          rcases hE with ⟨hn, rfl⟩ | ⟨ls, r3, v3, hn, rfl, hown3⟩
          · have RN := Lib.hid (show rr = none from by rw [YT.out, HE.out, HK.out, preT_none (readT_none hn)])
            clear hB hn
            have y0 : w3.cell? ⟨w.heap.size, 0, none⟩ = some (.int .i64 0) := P2.out.cell 0
            have y1 : w3.cell? ⟨w.heap.size, 1, none⟩ = some (.int .i64 0) := P2.out.cell 1
            have y2 : w3.cell? ⟨w.heap.size, 2, none⟩ = some (.slice none 0 0) := P2.out.cell 2
            have f0 := P2.out.free 0
            have f1 := P2.out.free 1
            have f2 := P2.out.free 2
            go_wp2_with fail
            go_quiet (fail)
            go_wp2_with fail
            obtain ⟨wz, hwz⟩ : ∃ wz, wz = put3 (w3.drewN nq) w.heap.size (.int .i64 0) (.int .i64 0) (.slice none 0 0) := ⟨_, rfl⟩
            have HZ := put3_blk (P2.out.drewN nq) (.int .i64 0) (.int .i64 0) (.slice none 0 0)
            have HP := put3_only (w3.drewN nq) w.heap.size (.int .i64 0) (.int .i64 0) (.slice none 0 0)
            rw [← hwz] at HZ HP
            unfold put3 at hwz
            rw [← hwz]
            have z0 : wz.cell? ⟨w.heap.size, 0, none⟩ = some (.int .i64 0) := HZ.cell 0
            have z1 : wz.cell? ⟨w.heap.size, 1, none⟩ = some (.int .i64 0) := HZ.cell 1
            have z2 : wz.cell? ⟨w.heap.size, 2, none⟩ = some (.slice none 0 0) := HZ.cell 2
            have HPB := Lib.hid (below_only (below_draws P4.out nq) HP)
            have HPO := Lib.hid HP
            clear hwz HZ HP
            exact bodyPost_ret (v := .tuple #[.agg #[.int .i64 0, .int .i64 0, .slice none 0 0], .string { data := #[] }, .bool false]) (by simp [results, Try.results12, go_sem, z0, z1, z2]) rfl ⟨by rw [RE.out]; exact .inl ⟨RN.out, rfl⟩, HPB.out⟩
          · have h53 := readNs_len most 3 r2 ls r3 hn
            match ls, h53 with
            | [x, y, z], _ =>
            have hr3 : r3.length ≤ r2.length := by
              have := congrArg List.length (readNs_take most (Nat.le_refl _) 3 r2 [x, y, z] r3 hn).1
              simp at this; omega
            have hxm := (readNs_take most (Nat.le_refl _) 3 r2 [x, y, z] r3 hn).2 x (by simp)
            have hym := (readNs_take most (Nat.le_refl _) 3 r2 [x, y, z] r3 hn).2 y (by simp)
            have hzm := (readNs_take most (Nat.le_refl _) 3 r2 [x, y, z] r3 hn).2 z (by simp)
            have RT := Lib.hid (readT_some hn)
            unfold most at hxm hym hzm
            obtain ⟨ao3, cap3, rfl, hf3⟩ := own_form hown3
            obtain ⟨g3, rfl, hg3, hg32⟩ := hf3 (by simp)
            have cs3 := hown3.cells (g := g3) rfl
            have u0 : w3.cell? ⟨g3, 0, none⟩ = some (.int .i64 x) := cs3 0 _ rfl
            have u1 : w3.cell? ⟨g3, 1, none⟩ = some (.int .i64 y) := cs3 1 _ rfl
            have u2 : w3.cell? ⟨g3, 2, none⟩ = some (.int .i64 z) := cs3 2 _ rfl
            have B3 := Lib.hid (show ∃ cur, w3.heap[g3]? = some (.cells cur 3 (0, 0)) from by
              rcases hown3.2 with ⟨h, _⟩ | ⟨g', cap', cur, h, _, hh, _⟩
              · cases h
              · injection h with h1 _ _; injection h1 with h1; injection h1 with h1 _ _; subst h1; exact ⟨cur, hh⟩)
            clear cs3 hown3 hn hB hf3
            have S1 : IntKind.i64.wrap ((y : Int) + z) = (y : Int) + z := IntWalk.i64_in _ (by omega)
            have WN := Lib.hid (fun w4 => within_c ((y : Int) + z) w4)
            by_cases hok : x ≤ 255 ∧ y + z ≤ most
            · have RT2 := Lib.hid (RT.out.trans (if_pos hok))
              have e5 : decide ((255 : Int) < (x : Int)) = false := by simp; omega
              rw [show inB ((y : Int) + z) = true from by have := inB_ok hok.2; rwa [Int.natCast_add] at this] at WN
              clear hok RT
              go_wp2_with fail
              go_quiet ((go_at_call 24; exact Calls.quiet_of_same ((WN.out _).mono fun _ _ ⟨h1, h2⟩ => ⟨h1, h2.symm⟩)))
              have bq0 : w3.cell? ⟨w.heap.size + 1, 0, none⟩ = some (.int .i64 c.toNat) := P1.out.cell 0
              have bq2 : w3.cell? ⟨w.heap.size + 1, 2, none⟩ = some (.slice ao2 acc.length cap2) := P1.out.cell 2
              have bf2 := P1.out.free 2
              have lb3 := P1.out.lt
              have hal : acc.length ≤ 4000 := by omega
              have CL := tokCells_len acc
              have CS := Lib.hid (tokCells_snoc acc ((x : Int), (y : Int), (y : Int) + z))
              have P1' := Lib.hid (P1.out.drewN nq)
              have P2' := Lib.hid (P2.out.drewN nq)
              have P3' := Lib.hid (show (w3.drewN nq).ownsRow w2.heap.size 78 3 (.slice ao2 acc.length cap2) acc.length (tokCells acc) from P3.out)
              have P4' := Lib.hid (below_draws P4.out nq)
              have P5' := Lib.hid (show (w3.drewN nq).cell? ⟨g, 1, none⟩ = some (.int .i64 n) from P5.out)
              have u0' : (w3.drewN nq).cell? ⟨g3, 0, none⟩ = some (.int .i64 x) := u0
              have u1' : (w3.drewN nq).cell? ⟨g3, 1, none⟩ = some (.int .i64 y) := u1
              have u2' : (w3.drewN nq).cell? ⟨g3, 2, none⟩ = some (.int .i64 z) := u2
              have bq0' : (w3.drewN nq).cell? ⟨w.heap.size + 1, 0, none⟩ = some (.int .i64 c.toNat) := bq0
              have bq2' : (w3.drewN nq).cell? ⟨w.heap.size + 1, 2, none⟩ = some (.slice ao2 acc.length cap2) := bq2
              have bf2' : (w3.drewN nq).frozen? ⟨w.heap.size + 1, 2, none⟩ = false := bf2
              have hs3' : wr.heap.size ≤ (w3.drewN nq).heap.size := hs3
              have lb3' : w.heap.size + 1 < (w3.drewN nq).heap.size := lb3
              have hg32' : g3 < (w3.drewN nq).heap.size := hg32
              clear P1 P2 P3 P4 P5 u0 u1 u2 bq0 bq2 bf2 hs3 lb3 hg32 B3
              generalize w3.drewN nq = w4 at *
              go_wp2_with fail
              refine wp_region_held_drew (S := fun w' => w'.cell? ⟨g3, 0, none⟩ = some (.int .i64 x) ∧ w'.cell? ⟨g3, 1, none⟩ = some (.int .i64 y) ∧ w'.cell? ⟨g3, 2, none⟩ = some (.int .i64 z)) (by kernel_rfl) ⟨u0', u1', u2'⟩ (fun hHeld => ?_)
              refine' wpAnyH_take (i := 0) (v := _) rfl (by kernel_rfl) (by kernel_rfl) (by kernel_rfl) (fun _ _ _ h => h) (Or.inl ⟨by rfl, ?hy0⟩) (by assumption) ?r0
              case hy0 => (intro w hSw; (try dsimp only at hSw); go_simp; with_reducible rfl)
              try simp only [Act.put]
              refine' wpAnyH_take (i := 2) (v := _) rfl (by kernel_rfl) (by kernel_rfl) (by kernel_rfl) (fun _ _ _ h => h) (Or.inl ⟨by rfl, ?hy2⟩) (by assumption) ?r2
              case hy2 => (intro w hSw; (try dsimp only at hSw); go_simp; with_reducible rfl)
              try simp only [Act.put]
              refine' wpAnyH_take (i := 3) (v := _) rfl (by kernel_rfl) (by kernel_rfl) (by kernel_rfl) (fun _ _ _ h => h) (Or.inl ⟨by rfl, ?hy3⟩) (by assumption) ?r3
              case hy3 => (intro w hSw; (try dsimp only at hSw); go_simp; with_reducible rfl)
              try simp only [Act.put]
              refine' wpAnyH_take (i := 4) (v := _) rfl (by kernel_rfl) (by kernel_rfl) (by kernel_rfl) (fun _ _ _ h => h) (Or.inl ⟨by rfl, ?hy4⟩) (by assumption) ?r4
              case hy4 => (intro w hSw; (try dsimp only at hSw); go_simp; with_reducible rfl)
              try simp only [Act.put]
              refine' wpAnyH_take (i := 5) (v := _) rfl (by kernel_rfl) (by kernel_rfl) (by kernel_rfl) (fun _ _ _ h => h) (Or.inl ⟨by rfl, ?hy5⟩) (by assumption) ?r5
              case hy5 => (intro w hSw; (try dsimp only at hSw); go_simp; with_reducible rfl)
              try simp only [Act.put]
              refine' wpAnyH_take (i := 6) (v := _) rfl (by kernel_rfl) (by kernel_rfl) (by kernel_rfl) (fun _ _ _ h => h) (Or.inl ⟨by rfl, ?hy6⟩) (by assumption) ?r6
              case hy6 => (intro w hSw; (try dsimp only at hSw); go_simp; with_reducible rfl)
              try simp only [Act.put]
              refine' wpAnyH_take (i := 7) (v := _) rfl (by kernel_rfl) (by kernel_rfl) (by kernel_rfl) (fun _ _ _ h => h) (Or.inl ⟨by rfl, ?hy7⟩) (by assumption) ?r7
              case hy7 => (intro w hSw; (try dsimp only at hSw); go_simp; with_reducible rfl)
              try simp only [Act.put]
              refine' wpAnyH_take (i := 8) (v := _) rfl (by kernel_rfl) (by kernel_rfl) (by kernel_rfl) (fun _ _ _ h => h) (Or.inl ⟨by rfl, ?hy8⟩) (by assumption) ?r8
              case hy8 => (intro w hSw; (try dsimp only at hSw); go_simp; with_reducible rfl)
              try simp only [Act.put]
              refine' wpAnyH_take (i := 9) (v := _) rfl (by kernel_rfl) (by kernel_rfl) (by kernel_rfl) (fun _ _ _ h => h) (Or.inl ⟨by rfl, ?hy9⟩) (by assumption) ?r9
              case hy9 => (intro w hSw; (try dsimp only at hSw); go_simp; with_reducible rfl)
              try simp only [Act.put]
              refine' wpAnyH_take (i := 10) (v := _) rfl (by kernel_rfl) (by kernel_rfl) (by kernel_rfl) (fun _ _ _ h => h) (Or.inl ⟨by rfl, ?hy10⟩) (by assumption) ?r10
              case hy10 => (intro w hSw; (try dsimp only at hSw); go_simp; with_reducible rfl)
              try simp only [Act.put]
              refine' wpAnyH_take (i := 11) (v := _) rfl (by kernel_rfl) (by kernel_rfl) (by kernel_rfl) (fun _ _ _ h => h) (Or.inl ⟨by rfl, ?hy11⟩) (by assumption) ?r11
              case hy11 => (intro w hSw; (try dsimp only at hSw); go_simp; with_reducible rfl)
              try simp only [Act.put]
              refine' wpAnyH_take (i := 12) (v := _) rfl (by kernel_rfl) (by kernel_rfl) (by kernel_rfl) (fun _ _ _ h => h) (Or.inl ⟨by rfl, ?hy12⟩) (by assumption) ?r12
              case hy12 => (intro w hSw; (try dsimp only at hSw); go_simp; with_reducible rfl)
              try simp only [Act.put]
              refine' wpAnyH_take (i := 13) (v := _) rfl (by kernel_rfl) (by kernel_rfl) (by kernel_rfl) (fun _ _ _ h => h) (Or.inl ⟨by rfl, ?hy13⟩) (by assumption) ?r13
              case hy13 => (intro w hSw; (try dsimp only at hSw); go_simp; with_reducible rfl)
              try simp only [Act.put]
              refine' wpAnyH_take (i := 14) (v := _) rfl (by kernel_rfl) (by kernel_rfl) (by kernel_rfl) (fun _ _ _ h => h) (Or.inl ⟨by rfl, ?hy14⟩) (by assumption) ?r14
              case hy14 => (intro w hSw; (try dsimp only at hSw); go_simp; with_reducible rfl)
              try simp only [Act.put]
              refine' wpAnyH_take (i := 15) (v := _) rfl (by kernel_rfl) (by kernel_rfl) (by kernel_rfl) (fun _ _ _ h => h) (Or.inl ⟨by rfl, ?hy15⟩) (by assumption) ?r15
              case hy15 => (intro w hSw; (try dsimp only at hSw); go_simp; with_reducible rfl)
              try simp only [Act.put]
              have X1 : ∀ t, ((w4.drew).alloc t).cell? ⟨g3, 0, none⟩ = some (.int .i64 x) := fun t => (World.cell?_alloc_lt _ _ _ hg32').trans u0'
              have X2 : ∀ t, ((w4.drew).alloc t).cell? ⟨g3, 1, none⟩ = some (.int .i64 y) := fun t => (World.cell?_alloc_lt _ _ _ hg32').trans u1'
              have X3 : ∀ t, ((w4.drew).alloc t).cell? ⟨g3, 2, none⟩ = some (.int .i64 z) := fun t => (World.cell?_alloc_lt _ _ _ hg32').trans u2'
              have X4 : ∀ t, ((w4.drew).alloc t).cell? ⟨w.heap.size + 1, 2, none⟩ = some (.slice ao2 acc.length cap2) := fun t => (World.cell?_alloc_lt _ _ _ lb3').trans bq2'
              have X5 := X4 (.cells #[.int .i64 x, .int .i64 y, .int .i64 ((y : Int) + z)] 78 (0, 0))
              have X6 : w4.drew.cell? ⟨w.heap.size + 1, 2, none⟩ = some (.slice ao2 acc.length cap2) := bq2'
              have hgo : ∀ g, (Value.slice ao2 acc.length cap2).ownBlock = some g → g < wr.heap.size := fun g h => HFG.out g h
              refine wpAnyH_ready (rs := [1, 16]) (by kernel_rfl) (by simp) (AllReadyH.cons rfl (fun K hK => ?_) (AllReadyH.cons rfl (fun K hK => ?_) AllReadyH.nil))
              · go_simp
                refine hK.out _ _ hHeld (fun _ => ?_)
                clear hK K
                refine wpAnyH_ready (rs := [16]) (by kernel_rfl) (by simp) (AllReadyH.cons rfl (fun K hK => ?_) AllReadyH.nil)
                go_simp
                refine hK.out _ _ ⟨X1 _, X2 _, X3 _⟩ (fun _ => ?_)
                clear hK K
                refine wpAnyH_ready (rs := [17]) (by kernel_rfl) (by simp) (AllReadyH.cons rfl (fun K hK => ?_) AllReadyH.nil)
                refine step_append_lies _ (by rfl) _ _ _ (by rfl) w2.heap.size 78 i0 _ 3 24 Try.underlying34 hti hz0 hz1 hz2 rfl (by omega) (.slice ao2 acc.length cap2) acc.length (tokCells acc) (by rfl) ((P3'.out.drew).alloc _) ⟨w4.heap.size, 0, none⟩ 1 1 [.int .i64 x, .int .i64 y, .int .i64 ((y : Int) + z)] (by rfl) (by rfl) (World.news_of_block (cs := #[_, _, _]) (t := 78) (fr := (0, 0)) (heap_alloc_new w4.drew _)) (by simp [Value.oneCell']) (by omega) (by unfold maxLen; omega) (by omega) (by simp; omega) (w4.heap.size + 1) (by simp) ?_
                intro gg cap5 w5 hown5 hgrow hat hlt5
                have G3 : ∀ o, w5.cell? ⟨g3, o, none⟩ = (w4.drew.alloc (.cells #[.int .i64 x, .int .i64 y, .int .i64 ((y : Int) + z)] 78 (0, 0))).cell? ⟨g3, o, none⟩ := fun o => hgrow.cell_far ⟨g3, o, none⟩ (by simp; omega) (fun e => by have h7 : g3 < wr.heap.size := hgo _ e.symm; omega)
                have G := Lib.hid (show w5.cell? ⟨g, 1, none⟩ = some (.int .i64 n) from (hgrow.cell_far ⟨g, 1, none⟩ (by simp; omega) (fun e => by have h7 : w2.heap.size ≤ g := HFF.out _ e.symm; omega)).trans ((World.cell?_alloc_lt _ _ _ (by simp; omega)).trans P5'.out))
                have S5 : w5.cell? ⟨g3, 0, none⟩ = some (.int .i64 x) ∧ w5.cell? ⟨g3, 1, none⟩ = some (.int .i64 y) ∧ w5.cell? ⟨g3, 2, none⟩ = some (.int .i64 z) := ⟨(G3 0).trans (X1 _), (G3 1).trans (X2 _), (G3 2).trans (X3 _)⟩
                have HB5 := Blk.grown (Blk.alloc (P1'.out.drew) _) hgrow (fun e => by have := HFF.out _ e.symm; omega)
                have HZ5 := Lib.hid (Blk.grown (Blk.alloc (P2'.out.drew) _) hgrow (fun e => by have := HFF.out _ e.symm; omega))
                have c5 : w5.cell? ⟨w.heap.size + 1, 2, none⟩ = some (.slice ao2 acc.length cap2) := HB5.cell 2
                have f5 := HB5.free 2
                have H5 := Lib.hid HB5
                have HO5 := Lib.hid hown5
                have HG5 := Lib.hid hgrow
                clear HB5 hown5 hgrow
                refine hK.out _ _ S5 (fun hHeld => ?_)
                clear hK K
                refine wpAnyH_ready (rs := [18]) (by kernel_rfl) (by simp) (AllReadyH.cons rfl (fun K hK => ?_) AllReadyH.nil)
                go_simp
                refine hK.out _ _ hHeld (fun _ => ?_)
                clear hK K
                refine wpAnyH_ready (rs := [19]) (by kernel_rfl) (by simp) (AllReadyH.cons rfl (fun K hK => ?_) AllReadyH.nil)
                go_simp
                refine hK.out _ _ ⟨(World.cell?_setCell_far _ _ _ _ (by simp; omega)).trans hHeld.1, (World.cell?_setCell_far _ _ _ _ (by simp; omega)).trans hHeld.2.1, (World.cell?_setCell_far _ _ _ _ (by simp; omega)).trans hHeld.2.2⟩ (fun _ => ?_)
                clear hK K hHeld S5 G3
                refine wpAnyH_done (by kernel_rfl) ?_ _
                have H6 := Lib.hid ((H5.out.set 2 (.slice (some ⟨gg, 0, none⟩) (acc.length + 1) cap5)).cast (cs' := #[.int .i64 c.toNat, .int .i64 a, .slice (some ⟨gg, 0, none⟩) (acc.length + 1) cap5]) rfl)
                have K6 : Only [w.heap.size + 1] w5 (w5.setCell ⟨w.heap.size + 1, 2, none⟩ (.slice (some ⟨gg, 0, none⟩) (acc.length + 1) cap5)) := (Only.refl _ _).set (.inl (by simp)) _
                have Z6 := Lib.hid (HZ5.out.only K6 (by simp))
                have O6 := Lib.hid (own_only HO5.out K6 (by simp; omega))
                have G6 := Lib.hid ((World.cell?_setCell_far w5 ⟨w.heap.size + 1, 2, none⟩ ⟨g, 1, none⟩ (.slice (some ⟨gg, 0, none⟩) (acc.length + 1) cap5) (by simp; omega)).trans G.out)
                have B6 := Lib.hid (below_put (Below.grown (below_alloc (below_draws P4'.out 1) (.cells #[.int .i64 x, .int .i64 y, .int .i64 ((y : Int) + z)] 78 (0, 0))) HG5.out (by rw [World.size_alloc]; show w.heap.size ≤ w4.heap.size + 1; omega) (fun k h => by have := HFF.out k h; omega)) (p := ⟨w.heap.size + 1, 2, none⟩) (by simp) (.slice (some ⟨gg, 0, none⟩) (acc.length + 1) cap5))
                have S7 : w4.heap.size + 1 ≤ w5.heap.size := by simpa using HG5.out.size
                have EQ := Lib.hid (show readTs n r = preT (acc ++ [((x : Int), (y : Int), (y : Int) + z)]) (readTs (n - (acc.length + 1)) r3) from by rw [HE.out, HK.out, preT_step RT2.out])
                clear H5 HZ5 HO5 G HG5 c5 f5 K6
                go_wp2_with fail
                go_roundw
                case rel => exact ⟨acc.length + 1, acc ++ [((x : Int), (y : Int), (y : Int) + z)], r3, _, by omega, rfl, by go_num, by simp, by omega, EQ.out, H6.out, by rw [CS.out, List.length_append]; exact O6.out, Z6.out, G6.out, B6.out, by rw [World.size_setCell]; omega⟩
                case measure => go_light; simp [intOf]; omega
              · go_simp
                refine hK.out _ _ ⟨X1 _, X2 _, X3 _⟩ (fun _ => ?_)
                clear hK K
                refine wpAnyH_ready (rs := [1]) (by kernel_rfl) (by simp) (AllReadyH.cons rfl (fun K hK => ?_) AllReadyH.nil)
                go_simp
                refine hK.out _ _ ⟨X1 _, X2 _, X3 _⟩ (fun _ => ?_)
                clear hK K
                refine wpAnyH_ready (rs := [17]) (by kernel_rfl) (by simp) (AllReadyH.cons rfl (fun K hK => ?_) AllReadyH.nil)
                refine step_append_lies _ (by rfl) _ _ _ (by rfl) w2.heap.size 78 i0 _ 3 24 Try.underlying34 hti hz0 hz1 hz2 rfl (by omega) (.slice ao2 acc.length cap2) acc.length (tokCells acc) (by rfl) ((P3'.out.drew).alloc _) ⟨w4.heap.size, 0, none⟩ 1 1 [.int .i64 x, .int .i64 y, .int .i64 ((y : Int) + z)] (by rfl) (by rfl) (World.news_of_block (cs := #[_, _, _]) (t := 78) (fr := (0, 0)) (heap_alloc_new w4.drew _)) (by simp [Value.oneCell']) (by omega) (by unfold maxLen; omega) (by omega) (by simp; omega) (w4.heap.size + 1) (by simp) ?_
                intro gg cap5 w5 hown5 hgrow hat hlt5
                have G3 : ∀ o, w5.cell? ⟨g3, o, none⟩ = (w4.drew.alloc (.cells #[.int .i64 x, .int .i64 y, .int .i64 ((y : Int) + z)] 78 (0, 0))).cell? ⟨g3, o, none⟩ := fun o => hgrow.cell_far ⟨g3, o, none⟩ (by simp; omega) (fun e => by have h7 : g3 < wr.heap.size := hgo _ e.symm; omega)
                have G := Lib.hid (show w5.cell? ⟨g, 1, none⟩ = some (.int .i64 n) from (hgrow.cell_far ⟨g, 1, none⟩ (by simp; omega) (fun e => by have h7 : w2.heap.size ≤ g := HFF.out _ e.symm; omega)).trans ((World.cell?_alloc_lt _ _ _ (by simp; omega)).trans P5'.out))
                have S5 : w5.cell? ⟨g3, 0, none⟩ = some (.int .i64 x) ∧ w5.cell? ⟨g3, 1, none⟩ = some (.int .i64 y) ∧ w5.cell? ⟨g3, 2, none⟩ = some (.int .i64 z) := ⟨(G3 0).trans (X1 _), (G3 1).trans (X2 _), (G3 2).trans (X3 _)⟩
                have HB5 := Blk.grown (Blk.alloc (P1'.out.drew) _) hgrow (fun e => by have := HFF.out _ e.symm; omega)
                have HZ5 := Lib.hid (Blk.grown (Blk.alloc (P2'.out.drew) _) hgrow (fun e => by have := HFF.out _ e.symm; omega))
                have c5 : w5.cell? ⟨w.heap.size + 1, 2, none⟩ = some (.slice ao2 acc.length cap2) := HB5.cell 2
                have f5 := HB5.free 2
                have H5 := Lib.hid HB5
                have HO5 := Lib.hid hown5
                have HG5 := Lib.hid hgrow
                clear HB5 hown5 hgrow
                refine hK.out _ _ S5 (fun hHeld => ?_)
                clear hK K
                refine wpAnyH_ready (rs := [18]) (by kernel_rfl) (by simp) (AllReadyH.cons rfl (fun K hK => ?_) AllReadyH.nil)
                go_simp
                refine hK.out _ _ hHeld (fun _ => ?_)
                clear hK K
                refine wpAnyH_ready (rs := [19]) (by kernel_rfl) (by simp) (AllReadyH.cons rfl (fun K hK => ?_) AllReadyH.nil)
                go_simp
                refine hK.out _ _ ⟨(World.cell?_setCell_far _ _ _ _ (by simp; omega)).trans hHeld.1, (World.cell?_setCell_far _ _ _ _ (by simp; omega)).trans hHeld.2.1, (World.cell?_setCell_far _ _ _ _ (by simp; omega)).trans hHeld.2.2⟩ (fun _ => ?_)
                clear hK K hHeld S5 G3
                refine wpAnyH_done (by kernel_rfl) ?_ _
                have H6 := Lib.hid ((H5.out.set 2 (.slice (some ⟨gg, 0, none⟩) (acc.length + 1) cap5)).cast (cs' := #[.int .i64 c.toNat, .int .i64 a, .slice (some ⟨gg, 0, none⟩) (acc.length + 1) cap5]) rfl)
                have K6 : Only [w.heap.size + 1] w5 (w5.setCell ⟨w.heap.size + 1, 2, none⟩ (.slice (some ⟨gg, 0, none⟩) (acc.length + 1) cap5)) := (Only.refl _ _).set (.inl (by simp)) _
                have Z6 := Lib.hid (HZ5.out.only K6 (by simp))
                have O6 := Lib.hid (own_only HO5.out K6 (by simp; omega))
                have G6 := Lib.hid ((World.cell?_setCell_far w5 ⟨w.heap.size + 1, 2, none⟩ ⟨g, 1, none⟩ (.slice (some ⟨gg, 0, none⟩) (acc.length + 1) cap5) (by simp; omega)).trans G.out)
                have B6 := Lib.hid (below_put (Below.grown (below_alloc (below_draws P4'.out 1) (.cells #[.int .i64 x, .int .i64 y, .int .i64 ((y : Int) + z)] 78 (0, 0))) HG5.out (by rw [World.size_alloc]; show w.heap.size ≤ w4.heap.size + 1; omega) (fun k h => by have := HFF.out k h; omega)) (p := ⟨w.heap.size + 1, 2, none⟩) (by simp) (.slice (some ⟨gg, 0, none⟩) (acc.length + 1) cap5))
                have S7 : w4.heap.size + 1 ≤ w5.heap.size := by simpa using HG5.out.size
                have EQ := Lib.hid (show readTs n r = preT (acc ++ [((x : Int), (y : Int), (y : Int) + z)]) (readTs (n - (acc.length + 1)) r3) from by rw [HE.out, HK.out, preT_step RT2.out])
                clear H5 HZ5 HO5 G HG5 c5 f5 K6
                go_wp2_with fail
                go_roundw
                case rel => exact ⟨acc.length + 1, acc ++ [((x : Int), (y : Int), (y : Int) + z)], r3, _, by omega, rfl, by go_num, by simp, by omega, EQ.out, H6.out, by rw [CS.out, List.length_append]; exact O6.out, Z6.out, G6.out, B6.out, by rw [World.size_setCell]; omega⟩
                case measure => go_light; simp [intOf]; omega
            · have RN := Lib.hid (show rr = none from by rw [YT.out, HE.out, HK.out, preT_none (RT.out.trans (if_neg hok))])
              clear B3
              by_cases h255 : (x : Int) ≤ 255
              · have e5 : decide ((255 : Int) < (x : Int)) = false := by simp; omega
                rw [show inB ((y : Int) + z) = false from by have := inB_no (m := y + z) (fun h => hok ⟨by omega, h⟩); rwa [Int.natCast_add] at this] at WN
                have y0 : w3.cell? ⟨w.heap.size, 0, none⟩ = some (.int .i64 0) := P2.out.cell 0
                have y1 : w3.cell? ⟨w.heap.size, 1, none⟩ = some (.int .i64 0) := P2.out.cell 1
                have y2 : w3.cell? ⟨w.heap.size, 2, none⟩ = some (.slice none 0 0) := P2.out.cell 2
                have f0 := P2.out.free 0
                have f1 := P2.out.free 1
                have f2 := P2.out.free 2
                go_wp2_with fail
                go_quiet ((go_at_call 24; exact Calls.quiet_of_same ((WN.out _).mono fun _ _ ⟨h1, h2⟩ => ⟨h1, h2.symm⟩)))
                go_wp2_with fail
                obtain ⟨wz, hwz⟩ : ∃ wz, wz = put3 (w3.drewN nq) w.heap.size (.int .i64 0) (.int .i64 0) (.slice none 0 0) := ⟨_, rfl⟩
                have HZ := put3_blk (P2.out.drewN nq) (.int .i64 0) (.int .i64 0) (.slice none 0 0)
                have HP := put3_only (w3.drewN nq) w.heap.size (.int .i64 0) (.int .i64 0) (.slice none 0 0)
                rw [← hwz] at HZ HP
                unfold put3 at hwz
                rw [← hwz]
                have z0 : wz.cell? ⟨w.heap.size, 0, none⟩ = some (.int .i64 0) := HZ.cell 0
                have z1 : wz.cell? ⟨w.heap.size, 1, none⟩ = some (.int .i64 0) := HZ.cell 1
                have z2 : wz.cell? ⟨w.heap.size, 2, none⟩ = some (.slice none 0 0) := HZ.cell 2
                have HPB := Lib.hid (below_only (below_draws P4.out nq) HP)
                have HPO := Lib.hid HP
                clear hwz HZ HP
                exact bodyPost_ret (v := .tuple #[.agg #[.int .i64 0, .int .i64 0, .slice none 0 0], .string { data := #[] }, .bool false]) (by simp [results, Try.results12, go_sem, z0, z1, z2]) rfl ⟨by rw [RE.out]; exact .inl ⟨RN.out, rfl⟩, HPB.out⟩
              · have e5 : decide ((255 : Int) < (x : Int)) = true := by simp; omega
                have y0 : w3.cell? ⟨w.heap.size, 0, none⟩ = some (.int .i64 0) := P2.out.cell 0
                have y1 : w3.cell? ⟨w.heap.size, 1, none⟩ = some (.int .i64 0) := P2.out.cell 1
                have y2 : w3.cell? ⟨w.heap.size, 2, none⟩ = some (.slice none 0 0) := P2.out.cell 2
                have f0 := P2.out.free 0
                have f1 := P2.out.free 1
                have f2 := P2.out.free 2
                go_wp2_with fail
                go_quiet (fail)
                go_wp2_with fail
                obtain ⟨wz, hwz⟩ : ∃ wz, wz = put3 (w3.drewN nq) w.heap.size (.int .i64 0) (.int .i64 0) (.slice none 0 0) := ⟨_, rfl⟩
                have HZ := put3_blk (P2.out.drewN nq) (.int .i64 0) (.int .i64 0) (.slice none 0 0)
                have HP := put3_only (w3.drewN nq) w.heap.size (.int .i64 0) (.int .i64 0) (.slice none 0 0)
                rw [← hwz] at HZ HP
                unfold put3 at hwz
                rw [← hwz]
                have z0 : wz.cell? ⟨w.heap.size, 0, none⟩ = some (.int .i64 0) := HZ.cell 0
                have z1 : wz.cell? ⟨w.heap.size, 1, none⟩ = some (.int .i64 0) := HZ.cell 1
                have z2 : wz.cell? ⟨w.heap.size, 2, none⟩ = some (.slice none 0 0) := HZ.cell 2
                have HPB := Lib.hid (below_only (below_draws P4.out nq) HP)
                have HPO := Lib.hid HP
                clear hwz HZ HP
                exact bodyPost_ret (v := .tuple #[.agg #[.int .i64 0, .int .i64 0, .slice none 0 0], .string { data := #[] }, .bool false]) (by simp [results, Try.results12, go_sem, z0, z1, z2]) rfl ⟨by rw [RE.out]; exact .inl ⟨RN.out, rfl⟩, HPB.out⟩
        · have e : acc.length = n := by omega
          have t3 : decide (acc.length < n) = false := by simp; omega
          have RN := Lib.hid (show rr = some (⟨c.toNat, a, acc⟩, r2) from by rw [YT.out, HE.out, e, Nat.sub_self]; unfold preT; simp [readTs])
          clear e
          have hlz := HZR.out.lt
          have hlb := HBX.out.lt
          have x0 : wr.cell? ⟨w.heap.size + 1, 0, none⟩ = some (.int .i64 c.toNat) := HBX.out.cell 0
          have x1 : wr.cell? ⟨w.heap.size + 1, 1, none⟩ = some (.int .i64 a) := HBX.out.cell 1
          have x2 : wr.cell? ⟨w.heap.size + 1, 2, none⟩ = some (.slice ao2 acc.length cap2) := HBX.out.cell 2
          have y0 : wr.cell? ⟨w.heap.size, 0, none⟩ = some (.int .i64 0) := HZR.out.cell 0
          have y1 : wr.cell? ⟨w.heap.size, 1, none⟩ = some (.int .i64 0) := HZR.out.cell 1
          have y2 : wr.cell? ⟨w.heap.size, 2, none⟩ = some (.slice none 0 0) := HZR.out.cell 2
          have f0 := HZR.out.free 0
          have f1 := HZR.out.free 1
          have f2 := HZR.out.free 2
          go_wp2_with fail
          obtain ⟨wz, hwz⟩ : ∃ wz, wz = put3 wr w.heap.size (.int .i64 c.toNat) (.int .i64 a) (.slice ao2 acc.length cap2) := ⟨_, rfl⟩
          have HZ := put3_blk HZR.out (.int .i64 c.toNat) (.int .i64 a) (.slice ao2 acc.length cap2)
          have HP := put3_only wr w.heap.size (.int .i64 c.toNat) (.int .i64 a) (.slice ao2 acc.length cap2)
          rw [← hwz] at HZ HP
          unfold put3 at hwz
          rw [← hwz]
          have z0 : wz.cell? ⟨w.heap.size, 0, none⟩ = some (.int .i64 c.toNat) := HZ.cell 0
          have z1 : wz.cell? ⟨w.heap.size, 1, none⟩ = some (.int .i64 a) := HZ.cell 1
          have z2 : wz.cell? ⟨w.heap.size, 2, none⟩ = some (.slice ao2 acc.length cap2) := HZ.cell 2
          have HPB := Lib.hid (below_only HBL.out HP)
          have HPO := Lib.hid HP
          clear hwz HZ HP
          exact bodyPost_ret (v := .tuple #[.agg #[.int .i64 c.toNat, .int .i64 a, .slice ao2 acc.length cap2], .string ⟨r2.toArray⟩, .bool true]) (by simp [results, Try.results12, go_sem, z0, z1, z2]) rfl ⟨by rw [RE.out]; exact .inr ⟨_, _, _, RN.out, rfl, own_mono (own_only HO.out HPO.out (by simp; omega)) (by omega)⟩, HPB.out⟩
end Go.Proofs.Ytgcjfjmnccajeaa
