/- The reference's Read, of a request with a text. -/
import Derived.Test.YtgcjfjmnccajeaaWire16
namespace Go.Proofs.Ytgcjfjmnccajeaa
open Go.RowKit
theorem readN_none {b : List UInt8} (h : readNs most 1 b = none) : readN 4000 b = none := by
  have h1 : readN most b = none := by
    cases hx : readN most b with
    | none => rfl
    | some p => obtain ⟨n, r⟩ := p; rw [readNs_step hx] at h; cases h
  unfold readN at h1 ⊢
  cases hr : rdF 7 0 0 b with
  | none => rfl
  | some p =>
    obtain ⟨n, r⟩ := p
    rw [hr] at h1
    simp only at h1 ⊢
    split at h1
    · cases h1
    · rw [if_neg (by unfold most at *; omega)]
theorem readN_some {b r : List UInt8} {n : Nat} (h : readNs most 1 b = some ([n], r)) : readN 4000 b = if n ≤ 4000 then some (n, r) else none := by
  cases hx : readN most b with
  | none => rw [readNs_no hx] at h; cases h
  | some p =>
    obtain ⟨n', r'⟩ := p
    rw [readNs_step hx] at h
    injection h with h
    injection h with e1 e2
    injection e1 with e1 _
    subst e1 e2
    unfold readN at hx ⊢
    cases hr : rdF 7 0 0 b with
    | none => rw [hr] at hx; cases hx
    | some p =>
      obtain ⟨n2, r2⟩ := p
      rw [hr] at hx
      simp only at hx ⊢
      split at hx
      · injection hx with hx; injection hx with e1 e2; rw [e1, e2]
      · cases hx
theorem readQ_text_none {k t : UInt8} {b : List UInt8} (h : k.toNat = 2 ∨ k.toNat = 3) (hn : readNs most 1 b = none) : readQ (k :: t :: b) = none := by
  simp only [readQ]
  rw [if_neg (by omega), if_pos h, readN_none hn]
theorem readQ_text_no {k t : UInt8} {b r : List UInt8} {n : Nat} (h : k.toNat = 2 ∨ k.toNat = 3) (hn : readNs most 1 b = some ([n], r)) (hb : 4000 < n ∨ r.length < n) : readQ (k :: t :: b) = none := by
  simp only [readQ]
  rw [if_neg (by omega), if_pos h, readN_some hn]
  by_cases h4 : n ≤ 4000
  · rw [if_pos h4]; simp only; rw [if_neg (by omega)]
  · rw [if_neg h4]
theorem readQ_text_ok {k t : UInt8} {b r : List UInt8} {n : Nat} (h : k.toNat = 2 ∨ k.toNat = 3) (hn : readNs most 1 b = some ([n], r)) (h4 : n ≤ 4000) (hr : n ≤ r.length) : readQ (k :: t :: b) = some (⟨k.toNat, t.toNat, 0, 0, 0, 0, 0, r.take n⟩, r.drop n) := by
  simp only [readQ]
  rw [if_neg (by omega), if_pos h, readN_some hn, if_pos h4]; simp only; rw [if_pos hr]
set_option maxHeartbeats 4000000 in
set_option maxRecDepth 100000 in
theorem rread_text2 (k t : UInt8) (b : List UInt8) (hl : b.length ≤ 1000000) (hb : k.toNat = 2) (w : World) : Calls Try.prog 9 #[.string ⟨(k :: t :: b).toArray⟩] w fun e w' => e = rread (k :: t :: b) ∧ Below w.heap.size w w' := by
  have RQN := Lib.hid (fun h => rread_none (readQ_text_none (t := t) (b := b) (.inl hb) h))
  have RQB := Lib.hid (fun n r h h2 => rread_none (readQ_text_no (t := t) (b := b) (r := r) (n := n) (.inl hb) h h2))
  have RQS := Lib.hid (fun n r h h4 hr => rread_some (readQ_text_ok (t := t) (b := b) (r := r) (n := n) (.inl hb) h h4 hr))
  generalize rread (k :: t :: b) = en at *
  have HS2 := mk_size (k :: t :: b)
  obtain ⟨s, hss⟩ : ∃ s, s = (⟨(k :: t :: b).toArray⟩ : ByteArray) := ⟨_, rfl⟩
  have g0 : ∀ h, (s[0]'h).toNat = k.toNat := fun h => mk_byte hss 0 (by simp) h
  have g1 : ∀ h, (s[1]'h).toNat = t.toNat := fun h => mk_byte hss 1 (by simp) h
  have hsz : s.size = b.length + 2 := by rw [hss]; exact HS2
  have EX := Lib.hid (show s.extract 2 s.size = ⟨b.toArray⟩ from by rw [hss]; exact mk_to_end (k :: t :: b) 2 _ (by rw [mk_size]; exact Nat.le_refl _))
  rw [← hss]
  clear hss HS2
  have hk := UInt8.toNat_lt k
  have ht := UInt8.toNat_lt t
  have hsl : s.size ≤ 1000002 := by omega
  have h2s : 2 ≤ s.size := by omega
  have h0s : 0 < s.size := by omega
  have h1s : 1 < s.size := by omega
  clear hsz
  have gk := g0 h0s
  have gt := g1 h1s
  clear g0 g1
  have t1 : decide ((s.size : Int) < 2) = false := by simp; omega
  rw [hb] at gk RQS
  clear hb
  have NC := Lib.hid (fun w1 => nums1 b hl w1)
  rw [← EX.out] at NC
  go_enter Try.func9, Try.ntmps9
  go_wp2_with fail
  go_region
  have B1 := Lib.hid (show Blk ((w.alloc (.cells #[.int .i64 0, .int .i64 0, .int .i64 0, .int .i64 0, .int .i64 0, .int .i64 0, .int .i64 0, .string { data := #[] }] 26)).alloc (.cells #[.int .i64 2, .int .i64 t.toNat, .int .i64 0, .int .i64 0, .int .i64 0, .int .i64 0, .int .i64 0, .string { data := #[] }] 26)).drew (w.heap.size + 1) 26 #[.int .i64 2, .int .i64 t.toNat, .int .i64 0, .int .i64 0, .int .i64 0, .int .i64 0, .int .i64 0, .string { data := #[] }] from by
    have := Blk.made (w.alloc (.cells #[.int .i64 0, .int .i64 0, .int .i64 0, .int .i64 0, .int .i64 0, .int .i64 0, .int .i64 0, .string { data := #[] }] 26)) 26 #[.int .i64 2, .int .i64 t.toNat, .int .i64 0, .int .i64 0, .int .i64 0, .int .i64 0, .int .i64 0, .string { data := #[] }]
    rw [World.size_alloc] at this
    exact this)
  have B2 := Lib.hid (show Blk ((w.alloc (.cells #[.int .i64 0, .int .i64 0, .int .i64 0, .int .i64 0, .int .i64 0, .int .i64 0, .int .i64 0, .string { data := #[] }] 26)).alloc (.cells #[.int .i64 2, .int .i64 t.toNat, .int .i64 0, .int .i64 0, .int .i64 0, .int .i64 0, .int .i64 0, .string { data := #[] }] 26)).drew w.heap.size 26 #[.int .i64 0, .int .i64 0, .int .i64 0, .int .i64 0, .int .i64 0, .int .i64 0, .int .i64 0, .string { data := #[] }] from Blk.drew (Blk.alloc (Blk.made w _ _) _))
  have HW := Lib.hid (show Below w.heap.size w ((w.alloc (.cells #[.int .i64 0, .int .i64 0, .int .i64 0, .int .i64 0, .int .i64 0, .int .i64 0, .int .i64 0, .string { data := #[] }] 26)).alloc (.cells #[.int .i64 2, .int .i64 t.toNat, .int .i64 0, .int .i64 0, .int .i64 0, .int .i64 0, .int .i64 0, .string { data := #[] }] 26)).drew from below_draws (below_alloc (below_alloc (Below.refl _ _) _) _) 1)
  go_wp2_with fail
  refine (NC.out _).mono ?_
  rintro e w1 ⟨hE, hB⟩
  have R1 := Lib.hid (B1.out.below hB)
  have R2 := Lib.hid (B2.out.below hB)
  have HW1 := Lib.hid (below_step HW.out hB)
  have hlt := R1.out.lt
  clear B1 B2 HW NC
  have y0 : w1.cell? ⟨w.heap.size, 0, none⟩ = some (.int .i64 0) := R2.out.cell 0
  have y1 : w1.cell? ⟨w.heap.size, 1, none⟩ = some (.int .i64 0) := R2.out.cell 1
  have y2 : w1.cell? ⟨w.heap.size, 2, none⟩ = some (.int .i64 0) := R2.out.cell 2
  have y3 : w1.cell? ⟨w.heap.size, 3, none⟩ = some (.int .i64 0) := R2.out.cell 3
  have y4 : w1.cell? ⟨w.heap.size, 4, none⟩ = some (.int .i64 0) := R2.out.cell 4
  have y5 : w1.cell? ⟨w.heap.size, 5, none⟩ = some (.int .i64 0) := R2.out.cell 5
  have y6 : w1.cell? ⟨w.heap.size, 6, none⟩ = some (.int .i64 0) := R2.out.cell 6
  have y7 : w1.cell? ⟨w.heap.size, 7, none⟩ = some (.string { data := #[] }) := R2.out.cell 7
  have f0 := R2.out.free 0
  have f1 := R2.out.free 1
  have f2 := R2.out.free 2
  have f3 := R2.out.free 3
  have f4 := R2.out.free 4
  have f5 := R2.out.free 5
  have f6 := R2.out.free 6
  have f7 := R2.out.free 7
  rcases hE with ⟨hn, rfl⟩ | ⟨ls, r, v, hn, rfl, hown⟩
  · have RN := Lib.hid (RQN.out hn)
    clear hB hn
    go_wp2_with fail
    obtain ⟨wz, hwz⟩ : ∃ wz, wz = put8 w1 w.heap.size (.int .i64 0) (.int .i64 0) (.int .i64 0) (.int .i64 0) (.int .i64 0) (.int .i64 0) (.int .i64 0) (.string { data := #[] }) := ⟨_, rfl⟩
    have HZ := put8_blk R2.out (.int .i64 0) (.int .i64 0) (.int .i64 0) (.int .i64 0) (.int .i64 0) (.int .i64 0) (.int .i64 0) (.string { data := #[] })
    have HP := put8_only w1 w.heap.size (.int .i64 0) (.int .i64 0) (.int .i64 0) (.int .i64 0) (.int .i64 0) (.int .i64 0) (.int .i64 0) (.string { data := #[] })
    rw [← hwz] at HZ HP
    unfold put8 at hwz
    rw [← hwz]
    have z0 : wz.cell? ⟨w.heap.size, 0, none⟩ = some (.int .i64 0) := HZ.cell 0
    have z1 : wz.cell? ⟨w.heap.size, 1, none⟩ = some (.int .i64 0) := HZ.cell 1
    have z2 : wz.cell? ⟨w.heap.size, 2, none⟩ = some (.int .i64 0) := HZ.cell 2
    have z3 : wz.cell? ⟨w.heap.size, 3, none⟩ = some (.int .i64 0) := HZ.cell 3
    have z4 : wz.cell? ⟨w.heap.size, 4, none⟩ = some (.int .i64 0) := HZ.cell 4
    have z5 : wz.cell? ⟨w.heap.size, 5, none⟩ = some (.int .i64 0) := HZ.cell 5
    have z6 : wz.cell? ⟨w.heap.size, 6, none⟩ = some (.int .i64 0) := HZ.cell 6
    have z7 : wz.cell? ⟨w.heap.size, 7, none⟩ = some (.string { data := #[] }) := HZ.cell 7
    have HPB := Lib.hid (below_only HW1.out HP)
    clear hwz HZ HP
    exact bodyPost_ret (v := .tuple #[.agg #[.int .i64 0, .int .i64 0, .int .i64 0, .int .i64 0, .int .i64 0, .int .i64 0, .int .i64 0, .string { data := #[] }], .string { data := #[] }, .bool false]) (by simp [results, Try.results9, go_sem, z0, z1, z2, z3, z4, z5, z6, z7]) rfl ⟨RN.out.symm, HPB.out⟩
  · have h5 := readNs_len most 1 b ls r hn
    match ls, h5 with
    | [n], _ =>
    obtain ⟨ao, cap, rfl, hf⟩ := own_form hown
    obtain ⟨g, rfl, hg, hg2⟩ := hf (by simp)
    have cs := hown.cells (g := g) rfl
    have v0 : w1.cell? ⟨g, 0, none⟩ = some (.int .i64 n) := cs 0 _ rfl
    have hgs : w.heap.size + 1 < g := by have : w.heap.size + 1 + 1 ≤ g := by simpa using hg
                                         omega
    have hrl : r.length ≤ b.length := by
      have := (readNs_take most (Nat.le_refl _) 1 b [n] r hn).1
      have := congrArg List.length this
      simp at this; omega
    have hms := mk_size r
    have E1 := Lib.hid (show (⟨r.toArray⟩ : ByteArray).extract 0 n = ⟨(r.take n).toArray⟩ from by rw [mk_extract, List.drop_zero, Nat.sub_zero])
    have E2 := Lib.hid (show (⟨r.toArray⟩ : ByteArray).extract n (⟨r.toArray⟩ : ByteArray).size = ⟨(r.drop n).toArray⟩ from mk_to_end r n _ (by rw [mk_size]; exact Nat.le_refl _))
    have RQB' := Lib.hid (fun h => RQB.out n r hn h)
    have RQS' := Lib.hid (fun h h2 => RQS.out n r hn h h2)
    clear cs hown hn hB hf hg RQB RQS RQN
    generalize (⟨r.toArray⟩ : ByteArray) = sr at *
    have hsr : sr.size ≤ 1000000 := by omega
    by_cases h4 : n ≤ 4000
    · have e4 : decide ((4000 : Int) < (n : Int)) = false := by simp; omega
      by_cases hr : n ≤ r.length
      · have e5 : decide (sr.size < n) = false := by simp; omega
        have e6 : (n : Int) ≤ (sr.size : Nat) := by omega
        have RN := Lib.hid (RQS'.out h4 hr)
        clear hr hms hrl
        have b0 : w1.cell? ⟨w.heap.size + 1, 0, none⟩ = some (.int .i64 2) := R1.out.cell 0
        have b1 : w1.cell? ⟨w.heap.size + 1, 1, none⟩ = some (.int .i64 t.toNat) := R1.out.cell 1
        have b2 : w1.cell? ⟨w.heap.size + 1, 2, none⟩ = some (.int .i64 0) := R1.out.cell 2
        have b3 : w1.cell? ⟨w.heap.size + 1, 3, none⟩ = some (.int .i64 0) := R1.out.cell 3
        have b4 : w1.cell? ⟨w.heap.size + 1, 4, none⟩ = some (.int .i64 0) := R1.out.cell 4
        have b5 : w1.cell? ⟨w.heap.size + 1, 5, none⟩ = some (.int .i64 0) := R1.out.cell 5
        have b6 : w1.cell? ⟨w.heap.size + 1, 6, none⟩ = some (.int .i64 0) := R1.out.cell 6
        have b7 : w1.cell? ⟨w.heap.size + 1, 7, none⟩ = some (.string { data := #[] }) := R1.out.cell 7
        have g0 := R1.out.free 0
        have g1 := R1.out.free 1
        have g2 := R1.out.free 2
        have g3 := R1.out.free 3
        have g4 := R1.out.free 4
        have g5 := R1.out.free 5
        have g6 := R1.out.free 6
        have g7 := R1.out.free 7
        go_wp2_with fail
        rw [E1.out, E2.out]
        obtain ⟨wz, hwz⟩ : ∃ wz, wz = put8 (w1.setCell ⟨w.heap.size + 1, 7, none⟩ (.string ⟨(r.take n).toArray⟩)) w.heap.size (.int .i64 2) (.int .i64 t.toNat) (.int .i64 0) (.int .i64 0) (.int .i64 0) (.int .i64 0) (.int .i64 0) (.string ⟨(r.take n).toArray⟩) := ⟨_, rfl⟩
        have HZ := put8_blk (Blk.far R2.out (p := ⟨w.heap.size + 1, 7, none⟩) (by simp) (.string ⟨(r.take n).toArray⟩)) (.int .i64 2) (.int .i64 t.toNat) (.int .i64 0) (.int .i64 0) (.int .i64 0) (.int .i64 0) (.int .i64 0) (.string ⟨(r.take n).toArray⟩)
        have HP := put8_only (w1.setCell ⟨w.heap.size + 1, 7, none⟩ (.string ⟨(r.take n).toArray⟩)) w.heap.size (.int .i64 2) (.int .i64 t.toNat) (.int .i64 0) (.int .i64 0) (.int .i64 0) (.int .i64 0) (.int .i64 0) (.string ⟨(r.take n).toArray⟩)
        rw [← hwz] at HZ HP
        unfold put8 at hwz
        rw [← hwz]
        have z0 : wz.cell? ⟨w.heap.size, 0, none⟩ = some (.int .i64 2) := HZ.cell 0
        have z1 : wz.cell? ⟨w.heap.size, 1, none⟩ = some (.int .i64 t.toNat) := HZ.cell 1
        have z2 : wz.cell? ⟨w.heap.size, 2, none⟩ = some (.int .i64 0) := HZ.cell 2
        have z3 : wz.cell? ⟨w.heap.size, 3, none⟩ = some (.int .i64 0) := HZ.cell 3
        have z4 : wz.cell? ⟨w.heap.size, 4, none⟩ = some (.int .i64 0) := HZ.cell 4
        have z5 : wz.cell? ⟨w.heap.size, 5, none⟩ = some (.int .i64 0) := HZ.cell 5
        have z6 : wz.cell? ⟨w.heap.size, 6, none⟩ = some (.int .i64 0) := HZ.cell 6
        have z7 : wz.cell? ⟨w.heap.size, 7, none⟩ = some (.string ⟨(r.take n).toArray⟩) := HZ.cell 7
        have HPB := Lib.hid (below_only (below_put HW1.out (p := ⟨w.heap.size + 1, 7, none⟩) (by simp) _) HP)
        clear hwz HZ HP
        exact bodyPost_ret (v := .tuple #[.agg #[.int .i64 2, .int .i64 t.toNat, .int .i64 0, .int .i64 0, .int .i64 0, .int .i64 0, .int .i64 0, .string ⟨(r.take n).toArray⟩], .string ⟨(r.drop n).toArray⟩, .bool true]) (by simp [results, Try.results9, go_sem, z0, z1, z2, z3, z4, z5, z6, z7]) rfl ⟨RN.out.symm, HPB.out⟩
      · have e5 : decide (sr.size < n) = true := by simp; omega
        have RN := Lib.hid (RQB'.out (.inr (by omega)))
        clear hr hms hrl
        go_wp2_with fail
        obtain ⟨wz, hwz⟩ : ∃ wz, wz = put8 w1 w.heap.size (.int .i64 0) (.int .i64 0) (.int .i64 0) (.int .i64 0) (.int .i64 0) (.int .i64 0) (.int .i64 0) (.string { data := #[] }) := ⟨_, rfl⟩
        have HZ := put8_blk R2.out (.int .i64 0) (.int .i64 0) (.int .i64 0) (.int .i64 0) (.int .i64 0) (.int .i64 0) (.int .i64 0) (.string { data := #[] })
        have HP := put8_only w1 w.heap.size (.int .i64 0) (.int .i64 0) (.int .i64 0) (.int .i64 0) (.int .i64 0) (.int .i64 0) (.int .i64 0) (.string { data := #[] })
        rw [← hwz] at HZ HP
        unfold put8 at hwz
        rw [← hwz]
        have z0 : wz.cell? ⟨w.heap.size, 0, none⟩ = some (.int .i64 0) := HZ.cell 0
        have z1 : wz.cell? ⟨w.heap.size, 1, none⟩ = some (.int .i64 0) := HZ.cell 1
        have z2 : wz.cell? ⟨w.heap.size, 2, none⟩ = some (.int .i64 0) := HZ.cell 2
        have z3 : wz.cell? ⟨w.heap.size, 3, none⟩ = some (.int .i64 0) := HZ.cell 3
        have z4 : wz.cell? ⟨w.heap.size, 4, none⟩ = some (.int .i64 0) := HZ.cell 4
        have z5 : wz.cell? ⟨w.heap.size, 5, none⟩ = some (.int .i64 0) := HZ.cell 5
        have z6 : wz.cell? ⟨w.heap.size, 6, none⟩ = some (.int .i64 0) := HZ.cell 6
        have z7 : wz.cell? ⟨w.heap.size, 7, none⟩ = some (.string { data := #[] }) := HZ.cell 7
        have HPB := Lib.hid (below_only HW1.out HP)
        clear hwz HZ HP
        exact bodyPost_ret (v := .tuple #[.agg #[.int .i64 0, .int .i64 0, .int .i64 0, .int .i64 0, .int .i64 0, .int .i64 0, .int .i64 0, .string { data := #[] }], .string { data := #[] }, .bool false]) (by simp [results, Try.results9, go_sem, z0, z1, z2, z3, z4, z5, z6, z7]) rfl ⟨RN.out.symm, HPB.out⟩
    · have e4 : decide ((4000 : Int) < (n : Int)) = true := by simp; omega
      have RN := Lib.hid (RQB'.out (.inl (by omega)))
      clear h4 hms hrl
      go_wp2_with fail
      obtain ⟨wz, hwz⟩ : ∃ wz, wz = put8 w1 w.heap.size (.int .i64 0) (.int .i64 0) (.int .i64 0) (.int .i64 0) (.int .i64 0) (.int .i64 0) (.int .i64 0) (.string { data := #[] }) := ⟨_, rfl⟩
      have HZ := put8_blk R2.out (.int .i64 0) (.int .i64 0) (.int .i64 0) (.int .i64 0) (.int .i64 0) (.int .i64 0) (.int .i64 0) (.string { data := #[] })
      have HP := put8_only w1 w.heap.size (.int .i64 0) (.int .i64 0) (.int .i64 0) (.int .i64 0) (.int .i64 0) (.int .i64 0) (.int .i64 0) (.string { data := #[] })
      rw [← hwz] at HZ HP
      unfold put8 at hwz
      rw [← hwz]
      have z0 : wz.cell? ⟨w.heap.size, 0, none⟩ = some (.int .i64 0) := HZ.cell 0
      have z1 : wz.cell? ⟨w.heap.size, 1, none⟩ = some (.int .i64 0) := HZ.cell 1
      have z2 : wz.cell? ⟨w.heap.size, 2, none⟩ = some (.int .i64 0) := HZ.cell 2
      have z3 : wz.cell? ⟨w.heap.size, 3, none⟩ = some (.int .i64 0) := HZ.cell 3
      have z4 : wz.cell? ⟨w.heap.size, 4, none⟩ = some (.int .i64 0) := HZ.cell 4
      have z5 : wz.cell? ⟨w.heap.size, 5, none⟩ = some (.int .i64 0) := HZ.cell 5
      have z6 : wz.cell? ⟨w.heap.size, 6, none⟩ = some (.int .i64 0) := HZ.cell 6
      have z7 : wz.cell? ⟨w.heap.size, 7, none⟩ = some (.string { data := #[] }) := HZ.cell 7
      have HPB := Lib.hid (below_only HW1.out HP)
      clear hwz HZ HP
      exact bodyPost_ret (v := .tuple #[.agg #[.int .i64 0, .int .i64 0, .int .i64 0, .int .i64 0, .int .i64 0, .int .i64 0, .int .i64 0, .string { data := #[] }], .string { data := #[] }, .bool false]) (by simp [results, Try.results9, go_sem, z0, z1, z2, z3, z4, z5, z6, z7]) rfl ⟨RN.out.symm, HPB.out⟩
set_option maxHeartbeats 4000000 in
set_option maxRecDepth 100000 in
theorem rread_text3 (k t : UInt8) (b : List UInt8) (hl : b.length ≤ 1000000) (hb : k.toNat = 3) (w : World) : Calls Try.prog 9 #[.string ⟨(k :: t :: b).toArray⟩] w fun e w' => e = rread (k :: t :: b) ∧ Below w.heap.size w w' := by
  have RQN := Lib.hid (fun h => rread_none (readQ_text_none (t := t) (b := b) (.inr hb) h))
  have RQB := Lib.hid (fun n r h h2 => rread_none (readQ_text_no (t := t) (b := b) (r := r) (n := n) (.inr hb) h h2))
  have RQS := Lib.hid (fun n r h h4 hr => rread_some (readQ_text_ok (t := t) (b := b) (r := r) (n := n) (.inr hb) h h4 hr))
  generalize rread (k :: t :: b) = en at *
  have HS2 := mk_size (k :: t :: b)
  obtain ⟨s, hss⟩ : ∃ s, s = (⟨(k :: t :: b).toArray⟩ : ByteArray) := ⟨_, rfl⟩
  have g0 : ∀ h, (s[0]'h).toNat = k.toNat := fun h => mk_byte hss 0 (by simp) h
  have g1 : ∀ h, (s[1]'h).toNat = t.toNat := fun h => mk_byte hss 1 (by simp) h
  have hsz : s.size = b.length + 2 := by rw [hss]; exact HS2
  have EX := Lib.hid (show s.extract 2 s.size = ⟨b.toArray⟩ from by rw [hss]; exact mk_to_end (k :: t :: b) 2 _ (by rw [mk_size]; exact Nat.le_refl _))
  rw [← hss]
  clear hss HS2
  have hk := UInt8.toNat_lt k
  have ht := UInt8.toNat_lt t
  have hsl : s.size ≤ 1000002 := by omega
  have h2s : 2 ≤ s.size := by omega
  have h0s : 0 < s.size := by omega
  have h1s : 1 < s.size := by omega
  clear hsz
  have gk := g0 h0s
  have gt := g1 h1s
  clear g0 g1
  have t1 : decide ((s.size : Int) < 2) = false := by simp; omega
  rw [hb] at gk RQS
  clear hb
  have NC := Lib.hid (fun w1 => nums1 b hl w1)
  rw [← EX.out] at NC
  go_enter Try.func9, Try.ntmps9
  go_wp2_with fail
  go_region
  have B1 := Lib.hid (show Blk ((w.alloc (.cells #[.int .i64 0, .int .i64 0, .int .i64 0, .int .i64 0, .int .i64 0, .int .i64 0, .int .i64 0, .string { data := #[] }] 26)).alloc (.cells #[.int .i64 3, .int .i64 t.toNat, .int .i64 0, .int .i64 0, .int .i64 0, .int .i64 0, .int .i64 0, .string { data := #[] }] 26)).drew (w.heap.size + 1) 26 #[.int .i64 3, .int .i64 t.toNat, .int .i64 0, .int .i64 0, .int .i64 0, .int .i64 0, .int .i64 0, .string { data := #[] }] from by
    have := Blk.made (w.alloc (.cells #[.int .i64 0, .int .i64 0, .int .i64 0, .int .i64 0, .int .i64 0, .int .i64 0, .int .i64 0, .string { data := #[] }] 26)) 26 #[.int .i64 3, .int .i64 t.toNat, .int .i64 0, .int .i64 0, .int .i64 0, .int .i64 0, .int .i64 0, .string { data := #[] }]
    rw [World.size_alloc] at this
    exact this)
  have B2 := Lib.hid (show Blk ((w.alloc (.cells #[.int .i64 0, .int .i64 0, .int .i64 0, .int .i64 0, .int .i64 0, .int .i64 0, .int .i64 0, .string { data := #[] }] 26)).alloc (.cells #[.int .i64 3, .int .i64 t.toNat, .int .i64 0, .int .i64 0, .int .i64 0, .int .i64 0, .int .i64 0, .string { data := #[] }] 26)).drew w.heap.size 26 #[.int .i64 0, .int .i64 0, .int .i64 0, .int .i64 0, .int .i64 0, .int .i64 0, .int .i64 0, .string { data := #[] }] from Blk.drew (Blk.alloc (Blk.made w _ _) _))
  have HW := Lib.hid (show Below w.heap.size w ((w.alloc (.cells #[.int .i64 0, .int .i64 0, .int .i64 0, .int .i64 0, .int .i64 0, .int .i64 0, .int .i64 0, .string { data := #[] }] 26)).alloc (.cells #[.int .i64 3, .int .i64 t.toNat, .int .i64 0, .int .i64 0, .int .i64 0, .int .i64 0, .int .i64 0, .string { data := #[] }] 26)).drew from below_draws (below_alloc (below_alloc (Below.refl _ _) _) _) 1)
  go_wp2_with fail
  refine (NC.out _).mono ?_
  rintro e w1 ⟨hE, hB⟩
  have R1 := Lib.hid (B1.out.below hB)
  have R2 := Lib.hid (B2.out.below hB)
  have HW1 := Lib.hid (below_step HW.out hB)
  have hlt := R1.out.lt
  clear B1 B2 HW NC
  have y0 : w1.cell? ⟨w.heap.size, 0, none⟩ = some (.int .i64 0) := R2.out.cell 0
  have y1 : w1.cell? ⟨w.heap.size, 1, none⟩ = some (.int .i64 0) := R2.out.cell 1
  have y2 : w1.cell? ⟨w.heap.size, 2, none⟩ = some (.int .i64 0) := R2.out.cell 2
  have y3 : w1.cell? ⟨w.heap.size, 3, none⟩ = some (.int .i64 0) := R2.out.cell 3
  have y4 : w1.cell? ⟨w.heap.size, 4, none⟩ = some (.int .i64 0) := R2.out.cell 4
  have y5 : w1.cell? ⟨w.heap.size, 5, none⟩ = some (.int .i64 0) := R2.out.cell 5
  have y6 : w1.cell? ⟨w.heap.size, 6, none⟩ = some (.int .i64 0) := R2.out.cell 6
  have y7 : w1.cell? ⟨w.heap.size, 7, none⟩ = some (.string { data := #[] }) := R2.out.cell 7
  have f0 := R2.out.free 0
  have f1 := R2.out.free 1
  have f2 := R2.out.free 2
  have f3 := R2.out.free 3
  have f4 := R2.out.free 4
  have f5 := R2.out.free 5
  have f6 := R2.out.free 6
  have f7 := R2.out.free 7
  rcases hE with ⟨hn, rfl⟩ | ⟨ls, r, v, hn, rfl, hown⟩
  · have RN := Lib.hid (RQN.out hn)
    clear hB hn
    go_wp2_with fail
    obtain ⟨wz, hwz⟩ : ∃ wz, wz = put8 w1 w.heap.size (.int .i64 0) (.int .i64 0) (.int .i64 0) (.int .i64 0) (.int .i64 0) (.int .i64 0) (.int .i64 0) (.string { data := #[] }) := ⟨_, rfl⟩
    have HZ := put8_blk R2.out (.int .i64 0) (.int .i64 0) (.int .i64 0) (.int .i64 0) (.int .i64 0) (.int .i64 0) (.int .i64 0) (.string { data := #[] })
    have HP := put8_only w1 w.heap.size (.int .i64 0) (.int .i64 0) (.int .i64 0) (.int .i64 0) (.int .i64 0) (.int .i64 0) (.int .i64 0) (.string { data := #[] })
    rw [← hwz] at HZ HP
    unfold put8 at hwz
    rw [← hwz]
    have z0 : wz.cell? ⟨w.heap.size, 0, none⟩ = some (.int .i64 0) := HZ.cell 0
    have z1 : wz.cell? ⟨w.heap.size, 1, none⟩ = some (.int .i64 0) := HZ.cell 1
    have z2 : wz.cell? ⟨w.heap.size, 2, none⟩ = some (.int .i64 0) := HZ.cell 2
    have z3 : wz.cell? ⟨w.heap.size, 3, none⟩ = some (.int .i64 0) := HZ.cell 3
    have z4 : wz.cell? ⟨w.heap.size, 4, none⟩ = some (.int .i64 0) := HZ.cell 4
    have z5 : wz.cell? ⟨w.heap.size, 5, none⟩ = some (.int .i64 0) := HZ.cell 5
    have z6 : wz.cell? ⟨w.heap.size, 6, none⟩ = some (.int .i64 0) := HZ.cell 6
    have z7 : wz.cell? ⟨w.heap.size, 7, none⟩ = some (.string { data := #[] }) := HZ.cell 7
    have HPB := Lib.hid (below_only HW1.out HP)
    clear hwz HZ HP
    exact bodyPost_ret (v := .tuple #[.agg #[.int .i64 0, .int .i64 0, .int .i64 0, .int .i64 0, .int .i64 0, .int .i64 0, .int .i64 0, .string { data := #[] }], .string { data := #[] }, .bool false]) (by simp [results, Try.results9, go_sem, z0, z1, z2, z3, z4, z5, z6, z7]) rfl ⟨RN.out.symm, HPB.out⟩
  · have h5 := readNs_len most 1 b ls r hn
    match ls, h5 with
    | [n], _ =>
    obtain ⟨ao, cap, rfl, hf⟩ := own_form hown
    obtain ⟨g, rfl, hg, hg2⟩ := hf (by simp)
    have cs := hown.cells (g := g) rfl
    have v0 : w1.cell? ⟨g, 0, none⟩ = some (.int .i64 n) := cs 0 _ rfl
    have hgs : w.heap.size + 1 < g := by have : w.heap.size + 1 + 1 ≤ g := by simpa using hg
                                         omega
    have hrl : r.length ≤ b.length := by
      have := (readNs_take most (Nat.le_refl _) 1 b [n] r hn).1
      have := congrArg List.length this
      simp at this; omega
    have hms := mk_size r
    have E1 := Lib.hid (show (⟨r.toArray⟩ : ByteArray).extract 0 n = ⟨(r.take n).toArray⟩ from by rw [mk_extract, List.drop_zero, Nat.sub_zero])
    have E2 := Lib.hid (show (⟨r.toArray⟩ : ByteArray).extract n (⟨r.toArray⟩ : ByteArray).size = ⟨(r.drop n).toArray⟩ from mk_to_end r n _ (by rw [mk_size]; exact Nat.le_refl _))
    have RQB' := Lib.hid (fun h => RQB.out n r hn h)
    have RQS' := Lib.hid (fun h h2 => RQS.out n r hn h h2)
    clear cs hown hn hB hf hg RQB RQS RQN
    generalize (⟨r.toArray⟩ : ByteArray) = sr at *
    have hsr : sr.size ≤ 1000000 := by omega
    by_cases h4 : n ≤ 4000
    · have e4 : decide ((4000 : Int) < (n : Int)) = false := by simp; omega
      by_cases hr : n ≤ r.length
      · have e5 : decide (sr.size < n) = false := by simp; omega
        have e6 : (n : Int) ≤ (sr.size : Nat) := by omega
        have RN := Lib.hid (RQS'.out h4 hr)
        clear hr hms hrl
        have b0 : w1.cell? ⟨w.heap.size + 1, 0, none⟩ = some (.int .i64 3) := R1.out.cell 0
        have b1 : w1.cell? ⟨w.heap.size + 1, 1, none⟩ = some (.int .i64 t.toNat) := R1.out.cell 1
        have b2 : w1.cell? ⟨w.heap.size + 1, 2, none⟩ = some (.int .i64 0) := R1.out.cell 2
        have b3 : w1.cell? ⟨w.heap.size + 1, 3, none⟩ = some (.int .i64 0) := R1.out.cell 3
        have b4 : w1.cell? ⟨w.heap.size + 1, 4, none⟩ = some (.int .i64 0) := R1.out.cell 4
        have b5 : w1.cell? ⟨w.heap.size + 1, 5, none⟩ = some (.int .i64 0) := R1.out.cell 5
        have b6 : w1.cell? ⟨w.heap.size + 1, 6, none⟩ = some (.int .i64 0) := R1.out.cell 6
        have b7 : w1.cell? ⟨w.heap.size + 1, 7, none⟩ = some (.string { data := #[] }) := R1.out.cell 7
        have g0 := R1.out.free 0
        have g1 := R1.out.free 1
        have g2 := R1.out.free 2
        have g3 := R1.out.free 3
        have g4 := R1.out.free 4
        have g5 := R1.out.free 5
        have g6 := R1.out.free 6
        have g7 := R1.out.free 7
        go_wp2_with fail
        rw [E1.out, E2.out]
        obtain ⟨wz, hwz⟩ : ∃ wz, wz = put8 (w1.setCell ⟨w.heap.size + 1, 7, none⟩ (.string ⟨(r.take n).toArray⟩)) w.heap.size (.int .i64 3) (.int .i64 t.toNat) (.int .i64 0) (.int .i64 0) (.int .i64 0) (.int .i64 0) (.int .i64 0) (.string ⟨(r.take n).toArray⟩) := ⟨_, rfl⟩
        have HZ := put8_blk (Blk.far R2.out (p := ⟨w.heap.size + 1, 7, none⟩) (by simp) (.string ⟨(r.take n).toArray⟩)) (.int .i64 3) (.int .i64 t.toNat) (.int .i64 0) (.int .i64 0) (.int .i64 0) (.int .i64 0) (.int .i64 0) (.string ⟨(r.take n).toArray⟩)
        have HP := put8_only (w1.setCell ⟨w.heap.size + 1, 7, none⟩ (.string ⟨(r.take n).toArray⟩)) w.heap.size (.int .i64 3) (.int .i64 t.toNat) (.int .i64 0) (.int .i64 0) (.int .i64 0) (.int .i64 0) (.int .i64 0) (.string ⟨(r.take n).toArray⟩)
        rw [← hwz] at HZ HP
        unfold put8 at hwz
        rw [← hwz]
        have z0 : wz.cell? ⟨w.heap.size, 0, none⟩ = some (.int .i64 3) := HZ.cell 0
        have z1 : wz.cell? ⟨w.heap.size, 1, none⟩ = some (.int .i64 t.toNat) := HZ.cell 1
        have z2 : wz.cell? ⟨w.heap.size, 2, none⟩ = some (.int .i64 0) := HZ.cell 2
        have z3 : wz.cell? ⟨w.heap.size, 3, none⟩ = some (.int .i64 0) := HZ.cell 3
        have z4 : wz.cell? ⟨w.heap.size, 4, none⟩ = some (.int .i64 0) := HZ.cell 4
        have z5 : wz.cell? ⟨w.heap.size, 5, none⟩ = some (.int .i64 0) := HZ.cell 5
        have z6 : wz.cell? ⟨w.heap.size, 6, none⟩ = some (.int .i64 0) := HZ.cell 6
        have z7 : wz.cell? ⟨w.heap.size, 7, none⟩ = some (.string ⟨(r.take n).toArray⟩) := HZ.cell 7
        have HPB := Lib.hid (below_only (below_put HW1.out (p := ⟨w.heap.size + 1, 7, none⟩) (by simp) _) HP)
        clear hwz HZ HP
        exact bodyPost_ret (v := .tuple #[.agg #[.int .i64 3, .int .i64 t.toNat, .int .i64 0, .int .i64 0, .int .i64 0, .int .i64 0, .int .i64 0, .string ⟨(r.take n).toArray⟩], .string ⟨(r.drop n).toArray⟩, .bool true]) (by simp [results, Try.results9, go_sem, z0, z1, z2, z3, z4, z5, z6, z7]) rfl ⟨RN.out.symm, HPB.out⟩
      · have e5 : decide (sr.size < n) = true := by simp; omega
        have RN := Lib.hid (RQB'.out (.inr (by omega)))
        clear hr hms hrl
        go_wp2_with fail
        obtain ⟨wz, hwz⟩ : ∃ wz, wz = put8 w1 w.heap.size (.int .i64 0) (.int .i64 0) (.int .i64 0) (.int .i64 0) (.int .i64 0) (.int .i64 0) (.int .i64 0) (.string { data := #[] }) := ⟨_, rfl⟩
        have HZ := put8_blk R2.out (.int .i64 0) (.int .i64 0) (.int .i64 0) (.int .i64 0) (.int .i64 0) (.int .i64 0) (.int .i64 0) (.string { data := #[] })
        have HP := put8_only w1 w.heap.size (.int .i64 0) (.int .i64 0) (.int .i64 0) (.int .i64 0) (.int .i64 0) (.int .i64 0) (.int .i64 0) (.string { data := #[] })
        rw [← hwz] at HZ HP
        unfold put8 at hwz
        rw [← hwz]
        have z0 : wz.cell? ⟨w.heap.size, 0, none⟩ = some (.int .i64 0) := HZ.cell 0
        have z1 : wz.cell? ⟨w.heap.size, 1, none⟩ = some (.int .i64 0) := HZ.cell 1
        have z2 : wz.cell? ⟨w.heap.size, 2, none⟩ = some (.int .i64 0) := HZ.cell 2
        have z3 : wz.cell? ⟨w.heap.size, 3, none⟩ = some (.int .i64 0) := HZ.cell 3
        have z4 : wz.cell? ⟨w.heap.size, 4, none⟩ = some (.int .i64 0) := HZ.cell 4
        have z5 : wz.cell? ⟨w.heap.size, 5, none⟩ = some (.int .i64 0) := HZ.cell 5
        have z6 : wz.cell? ⟨w.heap.size, 6, none⟩ = some (.int .i64 0) := HZ.cell 6
        have z7 : wz.cell? ⟨w.heap.size, 7, none⟩ = some (.string { data := #[] }) := HZ.cell 7
        have HPB := Lib.hid (below_only HW1.out HP)
        clear hwz HZ HP
        exact bodyPost_ret (v := .tuple #[.agg #[.int .i64 0, .int .i64 0, .int .i64 0, .int .i64 0, .int .i64 0, .int .i64 0, .int .i64 0, .string { data := #[] }], .string { data := #[] }, .bool false]) (by simp [results, Try.results9, go_sem, z0, z1, z2, z3, z4, z5, z6, z7]) rfl ⟨RN.out.symm, HPB.out⟩
    · have e4 : decide ((4000 : Int) < (n : Int)) = true := by simp; omega
      have RN := Lib.hid (RQB'.out (.inl (by omega)))
      clear h4 hms hrl
      go_wp2_with fail
      obtain ⟨wz, hwz⟩ : ∃ wz, wz = put8 w1 w.heap.size (.int .i64 0) (.int .i64 0) (.int .i64 0) (.int .i64 0) (.int .i64 0) (.int .i64 0) (.int .i64 0) (.string { data := #[] }) := ⟨_, rfl⟩
      have HZ := put8_blk R2.out (.int .i64 0) (.int .i64 0) (.int .i64 0) (.int .i64 0) (.int .i64 0) (.int .i64 0) (.int .i64 0) (.string { data := #[] })
      have HP := put8_only w1 w.heap.size (.int .i64 0) (.int .i64 0) (.int .i64 0) (.int .i64 0) (.int .i64 0) (.int .i64 0) (.int .i64 0) (.string { data := #[] })
      rw [← hwz] at HZ HP
      unfold put8 at hwz
      rw [← hwz]
      have z0 : wz.cell? ⟨w.heap.size, 0, none⟩ = some (.int .i64 0) := HZ.cell 0
      have z1 : wz.cell? ⟨w.heap.size, 1, none⟩ = some (.int .i64 0) := HZ.cell 1
      have z2 : wz.cell? ⟨w.heap.size, 2, none⟩ = some (.int .i64 0) := HZ.cell 2
      have z3 : wz.cell? ⟨w.heap.size, 3, none⟩ = some (.int .i64 0) := HZ.cell 3
      have z4 : wz.cell? ⟨w.heap.size, 4, none⟩ = some (.int .i64 0) := HZ.cell 4
      have z5 : wz.cell? ⟨w.heap.size, 5, none⟩ = some (.int .i64 0) := HZ.cell 5
      have z6 : wz.cell? ⟨w.heap.size, 6, none⟩ = some (.int .i64 0) := HZ.cell 6
      have z7 : wz.cell? ⟨w.heap.size, 7, none⟩ = some (.string { data := #[] }) := HZ.cell 7
      have HPB := Lib.hid (below_only HW1.out HP)
      clear hwz HZ HP
      exact bodyPost_ret (v := .tuple #[.agg #[.int .i64 0, .int .i64 0, .int .i64 0, .int .i64 0, .int .i64 0, .int .i64 0, .int .i64 0, .string { data := #[] }], .string { data := #[] }, .bool false]) (by simp [results, Try.results9, go_sem, z0, z1, z2, z3, z4, z5, z6, z7]) rfl ⟨RN.out.symm, HPB.out⟩
theorem refRead_c (l : List UInt8) (hl : l.length ≤ 1000000) (w : World) : Calls Try.prog 9 #[.string ⟨l.toArray⟩] w fun e w' => e = rread l ∧ Below w.heap.size w w' := by
  match l, hl with
  | [], _ => exact rread_short [] (by simp) w
  | [a], _ => exact rread_short [a] (by simp) w
  | k :: t :: b, hl =>
    have hb : b.length ≤ 1000000 := by simp at hl; omega
    by_cases h : k.toNat < 1 ∨ 4 < k.toNat
    · exact rread_bad k t b hb h w
    · have : k.toNat = 1 ∨ k.toNat = 2 ∨ k.toNat = 3 ∨ k.toNat = 4 := by omega
      rcases this with h | h | h | h
      · exact rread_one k t b hb h w
      · exact rread_text2 k t b hb h w
      · exact rread_text3 k t b hb h w
      · exact rread_four k t b hb h w
end Go.Proofs.Ytgcjfjmnccajeaa
