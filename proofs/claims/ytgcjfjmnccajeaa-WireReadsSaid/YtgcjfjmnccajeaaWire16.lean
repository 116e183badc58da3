/- The reference's Read. -/
import Derived.Test.YtgcjfjmnccajeaaWire15
import Derived.Test.YtgcjfjmnccajeaaWire12
import Derived.Test.YtgcjfjmnccajeaaWire7
namespace Go.Proofs.Ytgcjfjmnccajeaa
open Go.RowKit
def rread (s : List UInt8) : Ending :=
  match readQ s with
  | none => .returned (.tuple #[.agg #[.int .i64 0, .int .i64 0, .int .i64 0, .int .i64 0, .int .i64 0, .int .i64 0, .int .i64 0, .string { data := #[] }], .string { data := #[] }, .bool false])
  | some (r, rest) => .returned (.tuple #[.agg #[.int .i64 r.kind, .int .i64 r.tenant, .int .i64 r.q0, .int .i64 r.q1, .int .i64 r.q2, .int .i64 r.q3, .int .i64 r.q4, .string ⟨r.text.toArray⟩], .string ⟨rest.toArray⟩, .bool true])
theorem rread_none {s : List UInt8} (h : readQ s = none) : rread s = .returned (.tuple #[.agg #[.int .i64 0, .int .i64 0, .int .i64 0, .int .i64 0, .int .i64 0, .int .i64 0, .int .i64 0, .string { data := #[] }], .string { data := #[] }, .bool false]) := by unfold rread; rw [h]
theorem rread_some {s rest : List UInt8} {r : Rq} (h : readQ s = some (r, rest)) : rread s = .returned (.tuple #[.agg #[.int .i64 r.kind, .int .i64 r.tenant, .int .i64 r.q0, .int .i64 r.q1, .int .i64 r.q2, .int .i64 r.q3, .int .i64 r.q4, .string ⟨r.text.toArray⟩], .string ⟨rest.toArray⟩, .bool true]) := by unfold rread; rw [h]
theorem zero8 (w : World) : Blk (w.alloc (.cells #[.int .i64 0, .int .i64 0, .int .i64 0, .int .i64 0, .int .i64 0, .int .i64 0, .int .i64 0, .string { data := #[] }] 26)) w.heap.size 26 #[.int .i64 0, .int .i64 0, .int .i64 0, .int .i64 0, .int .i64 0, .int .i64 0, .int .i64 0, .string { data := #[] }] := Blk.made _ _ _
theorem below_only {w w1 w2 : World} (h : Below w.heap.size w w1) (k : Only [w.heap.size] w1 w2) : Below w.heap.size w w2 := (Only.step (S := []) (Only.ofBelow [] h) k (by simp)).below (by simp)
set_option maxHeartbeats 2000000 in
set_option maxRecDepth 100000 in
theorem rread_short (l : List UInt8) (hl : l.length < 2) (w : World) : Calls Try.prog 9 #[.string ⟨l.toArray⟩] w fun e w' => e = rread l ∧ Below w.heap.size w w' := by
  have RN := Lib.hid (rread_none (s := l) (by match l, hl with | [], _ => rfl | [_], _ => rfl))
  have hs := mk_size l
  generalize (⟨l.toArray⟩ : ByteArray) = s at *
  have hs2 : s.size < 2 := by omega
  have t1 : decide ((s.size : Int) < 2) = true := by simp; omega
  clear hs hl
  have H0 := Lib.hid (zero8 w)
  go_enter Try.func9, Try.ntmps9
  go_wp2_with fail
  go_returns
  exact ⟨RN.out.symm, below_alloc (Below.refl _ _) _⟩
theorem readQ_bad {k t : UInt8} {b : List UInt8} (h : k.toNat < 1 ∨ 4 < k.toNat) : readQ (k :: t :: b) = none := by
  simp only [readQ]
  rw [if_neg (by omega), if_neg (by omega), if_neg (by omega)]
set_option maxHeartbeats 2000000 in
set_option maxRecDepth 100000 in
theorem rread_bad (k t : UInt8) (b : List UInt8) (hl : b.length ≤ 1000000) (hb : k.toNat < 1 ∨ 4 < k.toNat) (w : World) : Calls Try.prog 9 #[.string ⟨(k :: t :: b).toArray⟩] w fun e w' => e = rread (k :: t :: b) ∧ Below w.heap.size w w' := by
  have RN := Lib.hid (rread_none (readQ_bad (t := t) (b := b) hb))
  have HS2 := mk_size (k :: t :: b)
  obtain ⟨s, hss⟩ : ∃ s, s = (⟨(k :: t :: b).toArray⟩ : ByteArray) := ⟨_, rfl⟩
  have g0 : ∀ h, (s[0]'h).toNat = k.toNat := fun h => mk_byte hss 0 (by simp) h
  have g1 : ∀ h, (s[1]'h).toNat = t.toNat := fun h => mk_byte hss 1 (by simp) h
  have hsz : s.size = b.length + 2 := by rw [hss]; exact HS2
  have EX := Lib.hid (show s.extract 2 s.size = ⟨b.toArray⟩ from by rw [hss]; exact mk_to_end (k :: t :: b) 2 _ (by rw [mk_size]; exact Nat.le_refl _))
  rw [← hss]
  clear hss HS2
  have hk := UInt8.toNat_lt k
  have ht := UInt8.toNat_lt t
  have hsl : s.size ≤ 1000002 := by omega
  have h2s : 2 ≤ s.size := by omega
  have h0s : 0 < s.size := by omega
  have h1s : 1 < s.size := by omega
  clear hsz
  have gk := g0 h0s
  have gt := g1 h1s
  clear g0 g1
  have t1 : decide ((s.size : Int) < 2) = false := by simp; omega
  rcases hb with hb | hb
  · have t2 : decide ((k.toNat : Int) < 1) = true := by simp; omega
    clear hb
    go_enter Try.func9, Try.ntmps9
    go_wp2_with fail
    go_returns
    exact ⟨RN.out.symm, below_alloc (Below.refl _ _) _⟩
  · have t2 : decide ((k.toNat : Int) < 1) = false := by simp; omega
    have t3 : decide ((4 : Int) < (k.toNat : Int)) = true := by simp; omega
    clear hb
    go_enter Try.func9, Try.ntmps9
    go_wp2_with fail
    go_returns
    exact ⟨RN.out.symm, below_alloc (Below.refl _ _) _⟩
theorem readQ_four {k t : UInt8} {b : List UInt8} (h : k.toNat = 4) : readQ (k :: t :: b) = some (⟨4, t.toNat, 0, 0, 0, 0, 0, []⟩, b) := by
  simp only [readQ]
  rw [if_neg (by omega), if_neg (by omega), if_pos h]
set_option maxHeartbeats 2000000 in
set_option maxRecDepth 100000 in
theorem rread_four (k t : UInt8) (b : List UInt8) (hl : b.length ≤ 1000000) (hb : k.toNat = 4) (w : World) : Calls Try.prog 9 #[.string ⟨(k :: t :: b).toArray⟩] w fun e w' => e = rread (k :: t :: b) ∧ Below w.heap.size w w' := by
  have RN := Lib.hid (rread_some (readQ_four (t := t) (b := b) hb))
  have HS2 := mk_size (k :: t :: b)
  obtain ⟨s, hss⟩ : ∃ s, s = (⟨(k :: t :: b).toArray⟩ : ByteArray) := ⟨_, rfl⟩
  have g0 : ∀ h, (s[0]'h).toNat = k.toNat := fun h => mk_byte hss 0 (by simp) h
  have g1 : ∀ h, (s[1]'h).toNat = t.toNat := fun h => mk_byte hss 1 (by simp) h
  have hsz : s.size = b.length + 2 := by rw [hss]; exact HS2
  have EX := Lib.hid (show s.extract 2 s.size = ⟨b.toArray⟩ from by rw [hss]; exact mk_to_end (k :: t :: b) 2 _ (by rw [mk_size]; exact Nat.le_refl _))
  rw [← hss]
  clear hss HS2
  have hk := UInt8.toNat_lt k
  have ht := UInt8.toNat_lt t
  have hsl : s.size ≤ 1000002 := by omega
  have h2s : 2 ≤ s.size := by omega
  have h0s : 0 < s.size := by omega
  have h1s : 1 < s.size := by omega
  clear hsz
  have gk := g0 h0s
  have gt := g1 h1s
  clear g0 g1
  have t1 : decide ((s.size : Int) < 2) = false := by simp; omega
  rw [hb] at gk
  clear hb
  go_enter Try.func9, Try.ntmps9
  go_wp2_with fail
  go_region
  go_wp2_with fail
  go_returns
  rw [EX.out]
  exact ⟨RN.out.symm, below_draws (below_alloc (below_alloc (Below.refl _ _) _) _) 1⟩
theorem nums5 (l : List UInt8) (hl : l.length ≤ 1000000) (w : World) : Calls Try.prog 18 #[.string ⟨l.toArray⟩, .int .i64 5] w fun e w' => NumsE l 5 w e w' ∧ Below w.heap.size w w' := nums_c l hl 5 (by omega) w
theorem nums1 (l : List UInt8) (hl : l.length ≤ 1000000) (w : World) : Calls Try.prog 18 #[.string ⟨l.toArray⟩, .int .i64 1] w fun e w' => NumsE l 1 w e w' ∧ Below w.heap.size w w' := nums_c l hl 1 (by omega) w
def put5 (w : World) (b : Nat) (a0 a1 a2 a3 a4 : Value) : World := ((((w.setCell ⟨b, 2, none⟩ a0).setCell ⟨b, 3, none⟩ a1).setCell ⟨b, 4, none⟩ a2).setCell ⟨b, 5, none⟩ a3).setCell ⟨b, 6, none⟩ a4
theorem put5_blk {w : World} {b : Nat} {t : TypeId} {c0 c1 c2 c3 c4 c5 c6 c7 : Value} (h : Blk w b t #[c0, c1, c2, c3, c4, c5, c6, c7]) (a0 a1 a2 a3 a4 : Value) : Blk (put5 w b a0 a1 a2 a3 a4) b t #[c0, c1, a0, a1, a2, a3, a4, c7] := by
  have h1 : Blk _ b t #[c0, c1, a0, c3, c4, c5, c6, c7] := (h.set 2 a0).cast (by rfl)
  have h2 : Blk _ b t #[c0, c1, a0, a1, c4, c5, c6, c7] := (h1.set 3 a1).cast (by rfl)
  have h3 : Blk _ b t #[c0, c1, a0, a1, a2, c5, c6, c7] := (h2.set 4 a2).cast (by rfl)
  have h4 : Blk _ b t #[c0, c1, a0, a1, a2, a3, c6, c7] := (h3.set 5 a3).cast (by rfl)
  have h5 : Blk _ b t #[c0, c1, a0, a1, a2, a3, a4, c7] := (h4.set 6 a4).cast (by rfl)
  exact h5
theorem put5_only (w : World) (b : Nat) (a0 a1 a2 a3 a4 : Value) : Only [b] w (put5 w b a0 a1 a2 a3 a4) :=
  (((((Only.refl [b] w).set (p := ⟨b, 2, none⟩) (by simp) a0).set (p := ⟨b, 3, none⟩) (by simp) a1).set (p := ⟨b, 4, none⟩) (by simp) a2).set (p := ⟨b, 5, none⟩) (by simp) a3).set (p := ⟨b, 6, none⟩) (by simp) a4
theorem readQ_one_none {k t : UInt8} {b : List UInt8} (h : k.toNat = 1) (hn : readNs most 5 b = none) : readQ (k :: t :: b) = none := by
  simp only [readQ]
  rw [if_pos h, hn]
theorem readQ_one_some {k t : UInt8} {b r : List UInt8} {a0 a1 a2 a3 a4 : Nat} (h : k.toNat = 1) (hn : readNs most 5 b = some ([a0, a1, a2, a3, a4], r)) : readQ (k :: t :: b) = some (⟨1, t.toNat, a0, a1, a2, a3, a4, []⟩, r) := by
  simp only [readQ]
  rw [if_pos h, hn]
set_option maxHeartbeats 4000000 in
set_option maxRecDepth 100000 in
theorem rread_one (k t : UInt8) (b : List UInt8) (hl : b.length ≤ 1000000) (hb : k.toNat = 1) (w : World) : Calls Try.prog 9 #[.string ⟨(k :: t :: b).toArray⟩] w fun e w' => e = rread (k :: t :: b) ∧ Below w.heap.size w w' := by
  have RQN := Lib.hid (fun h => readQ_one_none (t := t) (b := b) hb h)
  have RQS := Lib.hid (fun a0 a1 a2 a3 a4 r h => readQ_one_some (t := t) (b := b) (r := r) (a0 := a0) (a1 := a1) (a2 := a2) (a3 := a3) (a4 := a4) hb h)
  have HS2 := mk_size (k :: t :: b)
  obtain ⟨s, hss⟩ : ∃ s, s = (⟨(k :: t :: b).toArray⟩ : ByteArray) := ⟨_, rfl⟩
  have g0 : ∀ h, (s[0]'h).toNat = k.toNat := fun h => mk_byte hss 0 (by simp) h
  have g1 : ∀ h, (s[1]'h).toNat = t.toNat := fun h => mk_byte hss 1 (by simp) h
  have hsz : s.size = b.length + 2 := by rw [hss]; exact HS2
  have EX := Lib.hid (show s.extract 2 s.size = ⟨b.toArray⟩ from by rw [hss]; exact mk_to_end (k :: t :: b) 2 _ (by rw [mk_size]; exact Nat.le_refl _))
  rw [← hss]
  clear hss HS2
  have hk := UInt8.toNat_lt k
  have ht := UInt8.toNat_lt t
  have hsl : s.size ≤ 1000002 := by omega
  have h2s : 2 ≤ s.size := by omega
  have h0s : 0 < s.size := by omega
  have h1s : 1 < s.size := by omega
  clear hsz
  have gk := g0 h0s
  have gt := g1 h1s
  clear g0 g1
  have t1 : decide ((s.size : Int) < 2) = false := by simp; omega
  rw [hb] at gk
  clear hb
  have NC := Lib.hid (fun w1 => nums5 b hl w1)
  rw [← EX.out] at NC
  go_enter Try.func9, Try.ntmps9
  go_wp2_with fail
  go_region
  have B1 := Lib.hid (show Blk ((w.alloc (.cells #[.int .i64 0, .int .i64 0, .int .i64 0, .int .i64 0, .int .i64 0, .int .i64 0, .int .i64 0, .string { data := #[] }] 26)).alloc (.cells #[.int .i64 1, .int .i64 t.toNat, .int .i64 0, .int .i64 0, .int .i64 0, .int .i64 0, .int .i64 0, .string { data := #[] }] 26)).drew (w.heap.size + 1) 26 #[.int .i64 1, .int .i64 t.toNat, .int .i64 0, .int .i64 0, .int .i64 0, .int .i64 0, .int .i64 0, .string { data := #[] }] from by
    have := Blk.made (w.alloc (.cells #[.int .i64 0, .int .i64 0, .int .i64 0, .int .i64 0, .int .i64 0, .int .i64 0, .int .i64 0, .string { data := #[] }] 26)) 26 #[.int .i64 1, .int .i64 t.toNat, .int .i64 0, .int .i64 0, .int .i64 0, .int .i64 0, .int .i64 0, .string { data := #[] }]
    rw [World.size_alloc] at this
    exact this)
  have B2 := Lib.hid (show Blk ((w.alloc (.cells #[.int .i64 0, .int .i64 0, .int .i64 0, .int .i64 0, .int .i64 0, .int .i64 0, .int .i64 0, .string { data := #[] }] 26)).alloc (.cells #[.int .i64 1, .int .i64 t.toNat, .int .i64 0, .int .i64 0, .int .i64 0, .int .i64 0, .int .i64 0, .string { data := #[] }] 26)).drew w.heap.size 26 #[.int .i64 0, .int .i64 0, .int .i64 0, .int .i64 0, .int .i64 0, .int .i64 0, .int .i64 0, .string { data := #[] }] from Blk.drew (Blk.alloc (Blk.made w _ _) _))
  have HW := Lib.hid (show Below w.heap.size w ((w.alloc (.cells #[.int .i64 0, .int .i64 0, .int .i64 0, .int .i64 0, .int .i64 0, .int .i64 0, .int .i64 0, .string { data := #[] }] 26)).alloc (.cells #[.int .i64 1, .int .i64 t.toNat, .int .i64 0, .int .i64 0, .int .i64 0, .int .i64 0, .int .i64 0, .string { data := #[] }] 26)).drew from below_draws (below_alloc (below_alloc (Below.refl _ _) _) _) 1)
  go_wp2_with fail
  refine (NC.out _).mono ?_
  rintro e w1 ⟨hE, hB⟩
  have R1 := Lib.hid (B1.out.below hB)
  have R2 := Lib.hid (B2.out.below hB)
  have HW1 := Lib.hid (below_step HW.out hB)
  have hlt := R1.out.lt
  clear B1 B2 HW NC
  rcases hE with ⟨hn, rfl⟩ | ⟨ls, r, v, hn, rfl, hown⟩
  · have RN := Lib.hid (rread_none (RQN.out hn))
    clear hB hn
    have y0 : w1.cell? ⟨w.heap.size, 0, none⟩ = some (.int .i64 0) := R2.out.cell 0
    have y1 : w1.cell? ⟨w.heap.size, 1, none⟩ = some (.int .i64 0) := R2.out.cell 1
    have y2 : w1.cell? ⟨w.heap.size, 2, none⟩ = some (.int .i64 0) := R2.out.cell 2
    have y3 : w1.cell? ⟨w.heap.size, 3, none⟩ = some (.int .i64 0) := R2.out.cell 3
    have y4 : w1.cell? ⟨w.heap.size, 4, none⟩ = some (.int .i64 0) := R2.out.cell 4
    have y5 : w1.cell? ⟨w.heap.size, 5, none⟩ = some (.int .i64 0) := R2.out.cell 5
    have y6 : w1.cell? ⟨w.heap.size, 6, none⟩ = some (.int .i64 0) := R2.out.cell 6
    have y7 : w1.cell? ⟨w.heap.size, 7, none⟩ = some (.string { data := #[] }) := R2.out.cell 7
    have f0 := R2.out.free 0
    have f1 := R2.out.free 1
    have f2 := R2.out.free 2
    have f3 := R2.out.free 3
    have f4 := R2.out.free 4
    have f5 := R2.out.free 5
    have f6 := R2.out.free 6
    have f7 := R2.out.free 7
    go_wp2_with fail
    obtain ⟨wz, hwz⟩ : ∃ wz, wz = put8 w1 w.heap.size (.int .i64 0) (.int .i64 0) (.int .i64 0) (.int .i64 0) (.int .i64 0) (.int .i64 0) (.int .i64 0) (.string { data := #[] }) := ⟨_, rfl⟩
    have HZ := put8_blk R2.out (.int .i64 0) (.int .i64 0) (.int .i64 0) (.int .i64 0) (.int .i64 0) (.int .i64 0) (.int .i64 0) (.string { data := #[] })
    have HP := put8_only w1 w.heap.size (.int .i64 0) (.int .i64 0) (.int .i64 0) (.int .i64 0) (.int .i64 0) (.int .i64 0) (.int .i64 0) (.string { data := #[] })
    rw [← hwz] at HZ HP
    unfold put8 at hwz
    rw [← hwz]
    have z0 : wz.cell? ⟨w.heap.size, 0, none⟩ = some (.int .i64 0) := HZ.cell 0
    have z1 : wz.cell? ⟨w.heap.size, 1, none⟩ = some (.int .i64 0) := HZ.cell 1
    have z2 : wz.cell? ⟨w.heap.size, 2, none⟩ = some (.int .i64 0) := HZ.cell 2
    have z3 : wz.cell? ⟨w.heap.size, 3, none⟩ = some (.int .i64 0) := HZ.cell 3
    have z4 : wz.cell? ⟨w.heap.size, 4, none⟩ = some (.int .i64 0) := HZ.cell 4
    have z5 : wz.cell? ⟨w.heap.size, 5, none⟩ = some (.int .i64 0) := HZ.cell 5
    have z6 : wz.cell? ⟨w.heap.size, 6, none⟩ = some (.int .i64 0) := HZ.cell 6
    have z7 : wz.cell? ⟨w.heap.size, 7, none⟩ = some (.string { data := #[] }) := HZ.cell 7
    have HPB := Lib.hid (below_only HW1.out HP)
    clear hwz HZ HP
    exact bodyPost_ret (v := .tuple #[.agg #[.int .i64 0, .int .i64 0, .int .i64 0, .int .i64 0, .int .i64 0, .int .i64 0, .int .i64 0, .string { data := #[] }], .string { data := #[] }, .bool false]) (by simp [results, Try.results9, go_sem, z0, z1, z2, z3, z4, z5, z6, z7]) rfl ⟨RN.out.symm, HPB.out⟩
  · have h5 := readNs_len most 5 b ls r hn
    match ls, h5 with
    | [a0, a1, a2, a3, a4], _ =>
    have RN := Lib.hid (rread_some (RQS.out _ _ _ _ _ _ hn))
    obtain ⟨ao, cap, rfl, hf⟩ := own_form hown
    obtain ⟨g, rfl, hg, hg2⟩ := hf (by simp)
    have cs := hown.cells (g := g) rfl
    have v0 : w1.cell? ⟨g, 0, none⟩ = some (.int .i64 a0) := cs 0 _ rfl
    have v1 : w1.cell? ⟨g, 1, none⟩ = some (.int .i64 a1) := cs 1 _ rfl
    have v2 : w1.cell? ⟨g, 2, none⟩ = some (.int .i64 a2) := cs 2 _ rfl
    have v3 : w1.cell? ⟨g, 3, none⟩ = some (.int .i64 a3) := cs 3 _ rfl
    have v4 : w1.cell? ⟨g, 4, none⟩ = some (.int .i64 a4) := cs 4 _ rfl
    have hgs : w.heap.size + 1 < g := by have : w.heap.size + 1 + 1 ≤ g := by simpa using hg
                                         omega
    clear cs hown hn hB hf hg
    have b0 : w1.cell? ⟨w.heap.size + 1, 0, none⟩ = some (.int .i64 1) := R1.out.cell 0
    have b1 : w1.cell? ⟨w.heap.size + 1, 1, none⟩ = some (.int .i64 t.toNat) := R1.out.cell 1
    have b2 : w1.cell? ⟨w.heap.size + 1, 2, none⟩ = some (.int .i64 0) := R1.out.cell 2
    have b3 : w1.cell? ⟨w.heap.size + 1, 3, none⟩ = some (.int .i64 0) := R1.out.cell 3
    have b4 : w1.cell? ⟨w.heap.size + 1, 4, none⟩ = some (.int .i64 0) := R1.out.cell 4
    have b5 : w1.cell? ⟨w.heap.size + 1, 5, none⟩ = some (.int .i64 0) := R1.out.cell 5
    have b6 : w1.cell? ⟨w.heap.size + 1, 6, none⟩ = some (.int .i64 0) := R1.out.cell 6
    have b7 : w1.cell? ⟨w.heap.size + 1, 7, none⟩ = some (.string { data := #[] }) := R1.out.cell 7
    have f0 := R1.out.free 0
    have f1 := R1.out.free 1
    have f2 := R1.out.free 2
    have f3 := R1.out.free 3
    have f4 := R1.out.free 4
    have f5 := R1.out.free 5
    have f6 := R1.out.free 6
    have f7 := R1.out.free 7
    go_wp2_with fail
    go_region
    obtain ⟨w3, hw3⟩ : ∃ w3, w3 = put5 w1 (w.heap.size + 1) (.int .i64 a0) (.int .i64 a1) (.int .i64 a2) (.int .i64 a3) (.int .i64 a4) := ⟨_, rfl⟩
    have P0 := put5_only w1 (w.heap.size + 1) (.int .i64 a0) (.int .i64 a1) (.int .i64 a2) (.int .i64 a3) (.int .i64 a4)
    have p1 := put5_blk R1.out (.int .i64 a0) (.int .i64 a1) (.int .i64 a2) (.int .i64 a3) (.int .i64 a4)
    have p2 := Blk.only R2.out P0 (by simp)
    have p3 := (Only.step (S := []) (Only.ofBelow [] HW1.out) P0 (by simp)).below (by simp)
    rw [← hw3] at p1 p2 p3
    unfold put5 at hw3
    rw [← hw3]
    have P1 := Lib.hid p1
    have P2 := Lib.hid p2
    have P3 := Lib.hid p3
    clear hw3 P0 p1 p2 p3 R1 R2 HW1 v0 v1 v2 v3 v4 b0 b1 b2 b3 b4 b5 b6 b7 f0 f1 f2 f3 f4 f5 f6 f7 hlt
    have hlt := P1.out.lt
    have b0 : w3.cell? ⟨w.heap.size + 1, 0, none⟩ = some (.int .i64 1) := P1.out.cell 0
    have b1 : w3.cell? ⟨w.heap.size + 1, 1, none⟩ = some (.int .i64 t.toNat) := P1.out.cell 1
    have b2 : w3.cell? ⟨w.heap.size + 1, 2, none⟩ = some (.int .i64 a0) := P1.out.cell 2
    have b3 : w3.cell? ⟨w.heap.size + 1, 3, none⟩ = some (.int .i64 a1) := P1.out.cell 3
    have b4 : w3.cell? ⟨w.heap.size + 1, 4, none⟩ = some (.int .i64 a2) := P1.out.cell 4
    have b5 : w3.cell? ⟨w.heap.size + 1, 5, none⟩ = some (.int .i64 a3) := P1.out.cell 5
    have b6 : w3.cell? ⟨w.heap.size + 1, 6, none⟩ = some (.int .i64 a4) := P1.out.cell 6
    have b7 : w3.cell? ⟨w.heap.size + 1, 7, none⟩ = some (.string { data := #[] }) := P1.out.cell 7
    have f0 := P1.out.free 0
    have y0 : w3.cell? ⟨w.heap.size, 0, none⟩ = some (.int .i64 0) := P2.out.cell 0
    have y1 : w3.cell? ⟨w.heap.size, 1, none⟩ = some (.int .i64 0) := P2.out.cell 1
    have y2 : w3.cell? ⟨w.heap.size, 2, none⟩ = some (.int .i64 0) := P2.out.cell 2
    have y3 : w3.cell? ⟨w.heap.size, 3, none⟩ = some (.int .i64 0) := P2.out.cell 3
    have y4 : w3.cell? ⟨w.heap.size, 4, none⟩ = some (.int .i64 0) := P2.out.cell 4
    have y5 : w3.cell? ⟨w.heap.size, 5, none⟩ = some (.int .i64 0) := P2.out.cell 5
    have y6 : w3.cell? ⟨w.heap.size, 6, none⟩ = some (.int .i64 0) := P2.out.cell 6
    have y7 : w3.cell? ⟨w.heap.size, 7, none⟩ = some (.string { data := #[] }) := P2.out.cell 7
    have d0 := P2.out.free 0
    have d1 := P2.out.free 1
    have d2 := P2.out.free 2
    have d3 := P2.out.free 3
    have d4 := P2.out.free 4
    have d5 := P2.out.free 5
    have d6 := P2.out.free 6
    have d7 := P2.out.free 7
    go_wp2_with fail
    obtain ⟨wz, hwz⟩ : ∃ wz, wz = put8 w3 w.heap.size (.int .i64 1) (.int .i64 t.toNat) (.int .i64 a0) (.int .i64 a1) (.int .i64 a2) (.int .i64 a3) (.int .i64 a4) (.string { data := #[] }) := ⟨_, rfl⟩
    have HZ := put8_blk P2.out (.int .i64 1) (.int .i64 t.toNat) (.int .i64 a0) (.int .i64 a1) (.int .i64 a2) (.int .i64 a3) (.int .i64 a4) (.string { data := #[] })
    have HP := put8_only w3 w.heap.size (.int .i64 1) (.int .i64 t.toNat) (.int .i64 a0) (.int .i64 a1) (.int .i64 a2) (.int .i64 a3) (.int .i64 a4) (.string { data := #[] })
    rw [← hwz] at HZ HP
    unfold put8 at hwz
    rw [← hwz]
    have z0 : wz.cell? ⟨w.heap.size, 0, none⟩ = some (.int .i64 1) := HZ.cell 0
    have z1 : wz.cell? ⟨w.heap.size, 1, none⟩ = some (.int .i64 t.toNat) := HZ.cell 1
    have z2 : wz.cell? ⟨w.heap.size, 2, none⟩ = some (.int .i64 a0) := HZ.cell 2
    have z3 : wz.cell? ⟨w.heap.size, 3, none⟩ = some (.int .i64 a1) := HZ.cell 3
    have z4 : wz.cell? ⟨w.heap.size, 4, none⟩ = some (.int .i64 a2) := HZ.cell 4
    have z5 : wz.cell? ⟨w.heap.size, 5, none⟩ = some (.int .i64 a3) := HZ.cell 5
    have z6 : wz.cell? ⟨w.heap.size, 6, none⟩ = some (.int .i64 a4) := HZ.cell 6
    have z7 : wz.cell? ⟨w.heap.size, 7, none⟩ = some (.string { data := #[] }) := HZ.cell 7
    have HPB := Lib.hid (below_draws (below_only P3.out HP) 1)
    clear hwz HZ HP
    exact bodyPost_ret (v := .tuple #[.agg #[.int .i64 1, .int .i64 t.toNat, .int .i64 a0, .int .i64 a1, .int .i64 a2, .int .i64 a3, .int .i64 a4, .string { data := #[] }], .string ⟨r.toArray⟩, .bool true]) (by simp [results, Try.results9, go_sem, z0, z1, z2, z3, z4, z5, z6, z7]) rfl ⟨RN.out.symm, HPB.out⟩
end Go.Proofs.Ytgcjfjmnccajeaa
