/- Parts in memory, and what is asked of them. -/
import Derived.Test.YtonicgbejmghkaaDoorPtPure
import Derived.Test.YtonicgbejmghkaaDoorTail
import Derived.Handy
namespace Go.Proofs.YtonicgbejmghkaaDoor
open Go.RowKit
def setCsL (K : List (Nat → Nat)) : List Value := K.flatMap fun S => [.int .u64 (S 0), .int .u64 (S 1), .int .u64 (S 2), .int .u64 (S 3)]
theorem setCsL_len : ∀ K, (setCsL K).length = K.length * 4
  | [] => rfl
  | S :: K => by
    show (_ ++ setCsL K).length = _
    rw [List.length_append, setCsL_len K]; simp; omega
theorem setCsL_snoc (K : List (Nat → Nat)) (S : Nat → Nat) : setCsL (K ++ [S]) = setCsL K ++ [.int .u64 (S 0), .int .u64 (S 1), .int .u64 (S 2), .int .u64 (S 3)] := by unfold setCsL; simp
theorem setCsL_at : ∀ (K : List (Nat → Nat)) (i : Nat) (h : i < K.length), (setCsL K)[i * 4]? = some (.int .u64 (K[i] 0)) ∧ (setCsL K)[i * 4 + 1]? = some (.int .u64 (K[i] 1)) ∧ (setCsL K)[i * 4 + 2]? = some (.int .u64 (K[i] 2)) ∧ (setCsL K)[i * 4 + 3]? = some (.int .u64 (K[i] 3))
  | S :: K, 0, _ => ⟨rfl, rfl, rfl, rfl⟩
  | S :: K, i + 1, h => by
    have := setCsL_at K i (by simpa using h)
    have e : setCsL (S :: K) = .int .u64 (S 0) :: .int .u64 (S 1) :: .int .u64 (S 2) :: .int .u64 (S 3) :: setCsL K := rfl
    rw [e]
    simp only [Nat.succ_mul, List.getElem?_cons_succ, List.getElem_cons_succ]
    exact this
/-- A row of sets that can be read. -/
def SetsR (w : World) (v : Value) (l : List (Nat → Nat)) : Prop :=
  ∃ ao cap, v = .slice ao l.length cap ∧ (0 < l.length → ∃ b off, ao = some ⟨b, off, none⟩ ∧ b < w.heap.size ∧ ∀ i (h : i < l.length), w.cell? ⟨b, off + i * 4, none⟩ = some (.int .u64 (l[i] 0)) ∧ w.cell? ⟨b, off + i * 4 + 1, none⟩ = some (.int .u64 (l[i] 1)) ∧ w.cell? ⟨b, off + i * 4 + 2, none⟩ = some (.int .u64 (l[i] 2)) ∧ w.cell? ⟨b, off + i * 4 + 3, none⟩ = some (.int .u64 (l[i] 3)))
theorem SetsR.below {w w' : World} {v : Value} {l : List (Nat → Nat)} (h : SetsR w v l) (k : Below w.heap.size w w') : SetsR w' v l := by
  obtain ⟨ao, cap, e, h⟩ := h
  refine ⟨ao, cap, e, fun h0 => ?_⟩
  obtain ⟨b, off, e2, hb, hc⟩ := h h0
  refine ⟨b, off, e2, Nat.lt_of_lt_of_le hb k.size, fun i hi => ?_⟩
  obtain ⟨c0, c1, c2, c3⟩ := hc i hi
  exact ⟨(k.cell (p := ⟨b, _, none⟩) hb).trans c0, (k.cell (p := ⟨b, _, none⟩) hb).trans c1, (k.cell (p := ⟨b, _, none⟩) hb).trans c2, (k.cell (p := ⟨b, _, none⟩) hb).trans c3⟩
theorem own_sets {w : World} {B : Nat} {v : Value} {l : List (Nat → Nat)} (h : w.ownsRow B 35 4 v l.length (setCsL l)) : SetsR w v l := by
  obtain ⟨_, ⟨rfl, h0⟩ | ⟨g, cap, cur, rfl, hg, hh, _, _, _, ht⟩⟩ := h
  · exact ⟨none, 0, by rw [h0], fun h => by omega⟩
  · refine ⟨_, cap, rfl, fun _ => ⟨g, 0, rfl, (Array.getElem?_eq_some_iff.1 hh).1, fun i hi => ?_⟩⟩
    have K : ∀ j u, (setCsL l)[j]? = some u → w.cell? ⟨g, 0 + j, none⟩ = some u := fun j u hu => by
      rw [Nat.zero_add]
      have : cur[j]? = some u := by
        rw [← ht, List.getElem?_take] at hu
        split at hu
        · simpa using hu
        · cases hu
      unfold World.cell?
      simp [hh, this]
    have := setCsL_at l i hi
    exact ⟨K _ _ this.1, by have := K _ _ this.2.1; simpa [Nat.add_assoc] using this, by have := K _ _ this.2.2.1; simpa [Nat.add_assoc] using this, by have := K _ _ this.2.2.2; simpa [Nat.add_assoc] using this⟩
/-- Parts: their block, and the row of their sets. -/
def ptCs (m : List Nat) (v : Value) : Array Value := ((m.map fun n => Value.int .u8 (n : Nat)) ++ [v]).toArray
def PtR (w : World) (p : Nat) (m : List Nat) (K : List (Nat → Nat)) : Prop := m.length = 256 ∧ (∀ n ∈ m, n < 256) ∧ ∃ v, Blk w p 53 (ptCs m v) ∧ SetsR w v K
theorem ptCs_byte {m : List Nat} {v : Value} {b : Nat} (hb : b < m.length) : (ptCs m v)[b]? = some (.int .u8 (m[b] : Nat)) := by
  unfold ptCs
  rw [List.getElem?_toArray, List.getElem?_append_left (by rw [List.length_map]; exact hb), List.getElem?_map, List.getElem?_eq_getElem hb]; rfl
theorem ptCs_row {m : List Nat} {v : Value} (h : m.length = 256) : (ptCs m v)[256]? = some v := by
  unfold ptCs
  rw [List.getElem?_toArray, List.getElem?_append_right (by rw [List.length_map, h]; exact Nat.le_refl _), List.length_map, h]; rfl
theorem PtR.below {w w' : World} {p : Nat} {m : List Nat} {K : List (Nat → Nat)} (h : PtR w p m K) (k : Below w.heap.size w w') : PtR w' p m K := by
  obtain ⟨h0, h00, v, h1, h2⟩ := h
  exact ⟨h0, h00, v, h1.below k, h2.below k⟩
theorem PtR.lt {w : World} {p : Nat} {m : List Nat} {K : List (Nat → Nat)} (h : PtR w p m K) : p < w.heap.size := by
  obtain ⟨_, _, v, h1, _⟩ := h
  exact h1.lt
set_option maxHeartbeats 1000000 in
theorem len_c (p : Nat) (m : List Nat) (K : List (Nat → Nat)) (w : World) (h : PtR w p m K) : Calls Tryd.prog 17 #[.pointer (some ⟨p, 0, none⟩)] w fun e w' => e = .returned (.int .i64 K.length) ∧ Below w.heap.size w w' := by
  obtain ⟨h0, h00, v, h1, ao, cap, rfl, h2⟩ := h
  have c := h1.cell 256
  rw [ptCs_row h0] at c
  clear h0 h00 h1 h2
  go_enter Tryd.func17, Tryd.ntmps17
  go_wp2_with fail
  go_returns
  exact ⟨rfl, Below.refl _ _⟩
theorem len_nil (w : World) : Calls Tryd.prog 17 #[.pointer none] w fun e w' => e = .returned (.int .i64 0) ∧ Below w.heap.size w w' := by
  go_enter Tryd.func17, Tryd.ntmps17
  go_wp2_with fail
  go_returns
  exact ⟨rfl, Below.refl _ _⟩
set_option maxHeartbeats 1000000 in
theorem class_c (p : Nat) (m : List Nat) (K : List (Nat → Nat)) (b : Nat) (hb : b < 256) (w : World) (h : PtR w p m K) : Calls Tryd.prog 12 #[.pointer (some ⟨p, 0, none⟩), .int .u8 b] w fun e w' => e = .returned (.int .i64 (m.getD b 0 : Nat)) ∧ Below w.heap.size w w' := by
  obtain ⟨h0, h00, v, h1, _⟩ := h
  have c := h1.cell b
  rw [ptCs_byte (by omega)] at c
  rw [List.getD_eq_getElem?_getD, List.getElem?_eq_getElem (by omega), Option.getD_some]
  have h5 := h00 _ (List.getElem_mem (show b < m.length by omega))
  generalize m[b] = n at *
  have h6 : IntKind.i64.wrap (n : Int) = n := IntWalk.i64_in _ (by omega)
  clear h0 h00 h1
  go_enter Tryd.func12, Tryd.ntmps12
  go_wp2_with fail
  go_returns
  exact ⟨rfl, Below.refl _ _⟩
theorem class_nil (b : Nat) (w : World) : Calls Tryd.prog 12 #[.pointer none, .int .u8 b] w fun e w' => e = .returned (.int .i64 0) ∧ Below w.heap.size w w' := by
  go_enter Tryd.func12, Tryd.ntmps12
  go_wp2_with fail
  go_returns
  exact ⟨rfl, Below.refl _ _⟩
def put4 (w : World) (b : Nat) (a0 a1 a2 a3 : Value) : World := (((w.setCell ⟨b, 0, none⟩ a0).setCell ⟨b, 1, none⟩ a1).setCell ⟨b, 2, none⟩ a2).setCell ⟨b, 3, none⟩ a3
theorem put4_blk {w : World} {b : Nat} {t : TypeId} {c0 c1 c2 c3 : Value} (h : Blk w b t #[c0, c1, c2, c3]) (a0 a1 a2 a3 : Value) : Blk (put4 w b a0 a1 a2 a3) b t #[a0, a1, a2, a3] := by
  have h1 : Blk _ b t #[a0, c1, c2, c3] := (h.set 0 a0).cast (by rfl)
  have h2 : Blk _ b t #[a0, a1, c2, c3] := (h1.set 1 a1).cast (by rfl)
  have h3 : Blk _ b t #[a0, a1, a2, c3] := (h2.set 2 a2).cast (by rfl)
  have h4 : Blk _ b t #[a0, a1, a2, a3] := (h3.set 3 a3).cast (by rfl)
  exact h4
theorem put4_below {w wr : World} (h : Below w.heap.size w wr) {b : Nat} (hb : w.heap.size ≤ b) (a0 a1 a2 a3 : Value) : Below w.heap.size w (put4 wr b a0 a1 a2 a3) :=
  below_put (below_put (below_put (below_put h (p := ⟨b, 0, none⟩) hb a0) (p := ⟨b, 1, none⟩) hb a1) (p := ⟨b, 2, none⟩) hb a2) (p := ⟨b, 3, none⟩) hb a3
/-- The bytes of a class. -/
def ofK (K : List (Nat → Nat)) (c : Int) : Nat → Nat := if 0 ≤ c ∧ c < K.length then K.getD c.toNat zeroS else zeroS
set_option maxHeartbeats 1000000 in
theorem pof_c (p : Nat) (m : List Nat) (K : List (Nat → Nat)) (c : Int) (w : World) (h : PtR w p m K) : Calls Tryd.prog 14 #[.pointer (some ⟨p, 0, none⟩), .int .i64 c] w fun e w' => e = .returned (setV (ofK K c)) ∧ Below w.heap.size w w' := by
  have B0 := Lib.hid (below_alloc (Below.refl w.heap.size w) (.cells #[.int .u64 0, .int .u64 0, .int .u64 0, .int .u64 0] 35))
  have LC := Lib.hid (fun w' (hh : PtR w' p m K) => len_c p m K w' hh)
  have HA := Lib.hid (h.below B0.out)
  by_cases h0 : c < 0
  · rw [show ofK K c = zeroS from by unfold ofK; rw [if_neg (by omega)]]
    have t0 : decide (c < 0) = true := by simpa using h0
    clear h
    unfold setV zeroS
    go_enter Tryd.func14, Tryd.ntmps14
    go_wp2_with fail
    go_returns
    exact ⟨rfl, B0.out⟩
  · have t0 : decide (c < 0) = false := by simpa using h0
    by_cases h1 : (K.length : Int) ≤ c
    · rw [show ofK K c = zeroS from by unfold ofK; rw [if_neg (by omega)]]
      have t1 : decide ((K.length : Int) ≤ c) = true := by simpa using h1
      clear h
      unfold setV zeroS
      go_enter Tryd.func14, Tryd.ntmps14
      go_wp2_with fail
      refine (LC.out _ HA.out).mono ?_; rintro e w1 ⟨rfl, k1⟩
      have B1 := Lib.hid (below_step B0.out k1)
      have Z := Lib.hid ((Blk.made w 35 #[.int .u64 0, .int .u64 0, .int .u64 0, .int .u64 0]).below k1)
      clear k1
      have z0 : w1.cell? ⟨w.heap.size, 0, none⟩ = some (.int .u64 0) := Z.out.cell 0
      have z1 : w1.cell? ⟨w.heap.size, 1, none⟩ = some (.int .u64 0) := Z.out.cell 1
      have z2 : w1.cell? ⟨w.heap.size, 2, none⟩ = some (.int .u64 0) := Z.out.cell 2
      have z3 : w1.cell? ⟨w.heap.size, 3, none⟩ = some (.int .u64 0) := Z.out.cell 3
      have f0 := Z.out.free 0
      have f1 := Z.out.free 1
      have f2 := Z.out.free 2
      have f3 := Z.out.free 3
      go_wp2_with fail
      obtain ⟨wz, hwz⟩ : ∃ wz, wz = put4 w1 w.heap.size (.int .u64 0) (.int .u64 0) (.int .u64 0) (.int .u64 0) := ⟨_, rfl⟩
      have HZ := put4_blk Z.out (.int .u64 0) (.int .u64 0) (.int .u64 0) (.int .u64 0)
      have HP := Lib.hid (put4_below B1.out (Nat.le_refl _) (.int .u64 0) (.int .u64 0) (.int .u64 0) (.int .u64 0))
      rw [← hwz] at HZ HP
      unfold put4 at hwz
      rw [← hwz]
      have z0 : wz.cell? ⟨w.heap.size, 0, none⟩ = some (.int .u64 0) := HZ.cell 0
      have z1 : wz.cell? ⟨w.heap.size, 1, none⟩ = some (.int .u64 0) := HZ.cell 1
      have z2 : wz.cell? ⟨w.heap.size, 2, none⟩ = some (.int .u64 0) := HZ.cell 2
      have z3 : wz.cell? ⟨w.heap.size, 3, none⟩ = some (.int .u64 0) := HZ.cell 3
      exact bodyPost_ret (v := .agg #[.int .u64 0, .int .u64 0, .int .u64 0, .int .u64 0]) (by simp [results, Tryd.results14, go_sem, z0, z1, z2, z3]) rfl ⟨rfl, HP.out⟩
    · have t1 : decide ((K.length : Int) ≤ c) = false := by simpa using h1
      obtain ⟨i, rfl⟩ := Int.eq_ofNat_of_zero_le (show 0 ≤ c by omega)
      have hi : i < K.length := by omega
      rw [show ofK K (i : Nat) = K[i] from by unfold ofK; rw [if_pos (by omega), List.getD_eq_getElem?_getD, Int.toNat_natCast, List.getElem?_eq_getElem hi]; rfl]
      obtain ⟨g0, g00, v, g1, ao, cap, rfl, g2⟩ := h
      obtain ⟨b, off, rfl, hb, hc⟩ := g2 (by omega)
      obtain ⟨c0, c1, c2, c3⟩ := hc i hi
      have cr := g1.cell 256
      rw [ptCs_row g0] at cr
      have hp := g1.lt
      clear g0 g00 g1 g2 hc
      generalize K[i] = S at *
      unfold setV
      go_enter Tryd.func14, Tryd.ntmps14
      go_wp2_with fail
      refine (LC.out _ HA.out).mono ?_; rintro e w1 ⟨rfl, k1⟩
      have B1 := Lib.hid (below_step B0.out k1)
      have d0 := (B1.out.cell (p := ⟨b, off + i * 4, none⟩) hb).trans c0
      have d1 := (B1.out.cell (p := ⟨b, off + i * 4 + 1, none⟩) hb).trans c1
      have d2 := (B1.out.cell (p := ⟨b, off + i * 4 + 2, none⟩) hb).trans c2
      have d3 := (B1.out.cell (p := ⟨b, off + i * 4 + 3, none⟩) hb).trans c3
      have dr := (B1.out.cell (p := ⟨p, 256, none⟩) hp).trans cr
      have Z := Lib.hid ((Blk.made w 35 #[.int .u64 0, .int .u64 0, .int .u64 0, .int .u64 0]).below k1)
      clear k1 LC HA B0 c0 c1 c2 c3 cr
      have z0 : w1.cell? ⟨w.heap.size, 0, none⟩ = some (.int .u64 0) := Z.out.cell 0
      have z1 : w1.cell? ⟨w.heap.size, 1, none⟩ = some (.int .u64 0) := Z.out.cell 1
      have z2 : w1.cell? ⟨w.heap.size, 2, none⟩ = some (.int .u64 0) := Z.out.cell 2
      have z3 : w1.cell? ⟨w.heap.size, 3, none⟩ = some (.int .u64 0) := Z.out.cell 3
      have f0 := Z.out.free 0
      have f1 := Z.out.free 1
      have f2 := Z.out.free 2
      have f3 := Z.out.free 3
      go_wp2_with fail
      obtain ⟨wz, hwz⟩ : ∃ wz, wz = put4 w1 w.heap.size (.int .u64 (S 0)) (.int .u64 (S 1)) (.int .u64 (S 2)) (.int .u64 (S 3)) := ⟨_, rfl⟩
      have HZ := put4_blk Z.out (.int .u64 (S 0)) (.int .u64 (S 1)) (.int .u64 (S 2)) (.int .u64 (S 3))
      have HP := Lib.hid (put4_below B1.out (Nat.le_refl _) (.int .u64 (S 0)) (.int .u64 (S 1)) (.int .u64 (S 2)) (.int .u64 (S 3)))
      rw [← hwz] at HZ HP
      unfold put4 at hwz
      rw [← hwz]
      have z0 : wz.cell? ⟨w.heap.size, 0, none⟩ = some (.int .u64 (S 0)) := HZ.cell 0
      have z1 : wz.cell? ⟨w.heap.size, 1, none⟩ = some (.int .u64 (S 1)) := HZ.cell 1
      have z2 : wz.cell? ⟨w.heap.size, 2, none⟩ = some (.int .u64 (S 2)) := HZ.cell 2
      have z3 : wz.cell? ⟨w.heap.size, 3, none⟩ = some (.int .u64 (S 3)) := HZ.cell 3
      exact bodyPost_ret (v := .agg #[.int .u64 (S 0), .int .u64 (S 1), .int .u64 (S 2), .int .u64 (S 3)]) (by simp [results, Tryd.results14, go_sem, z0, z1, z2, z3]) rfl ⟨rfl, HP.out⟩
theorem pof_nil (c : Int) (w : World) : Calls Tryd.prog 14 #[.pointer none, .int .i64 c] w fun e w' => e = .returned (setV zeroS) ∧ Below w.heap.size w w' := by
  have B0 := Lib.hid (below_alloc (Below.refl w.heap.size w) (.cells #[.int .u64 0, .int .u64 0, .int .u64 0, .int .u64 0] 35))
  have LC := Lib.hid len_nil
  unfold setV zeroS
  by_cases h0 : c < 0
  · have t0 : decide (c < 0) = true := by simpa using h0
    go_enter Tryd.func14, Tryd.ntmps14
    go_wp2_with fail
    go_returns
    exact ⟨rfl, B0.out⟩
  · have t0 : decide (c < 0) = false := by simpa using h0
    have t1 : decide (0 ≤ c) = true := by simp; omega
    go_enter Tryd.func14, Tryd.ntmps14
    go_wp2_with fail
    refine (LC.out _).mono ?_; rintro e w1 ⟨rfl, k1⟩
    have B1 := Lib.hid (below_step B0.out k1)
    have Z := Lib.hid ((Blk.made w 35 #[.int .u64 0, .int .u64 0, .int .u64 0, .int .u64 0]).below k1)
    clear k1
    have z0 : w1.cell? ⟨w.heap.size, 0, none⟩ = some (.int .u64 0) := Z.out.cell 0
    have z1 : w1.cell? ⟨w.heap.size, 1, none⟩ = some (.int .u64 0) := Z.out.cell 1
    have z2 : w1.cell? ⟨w.heap.size, 2, none⟩ = some (.int .u64 0) := Z.out.cell 2
    have z3 : w1.cell? ⟨w.heap.size, 3, none⟩ = some (.int .u64 0) := Z.out.cell 3
    have f0 := Z.out.free 0
    have f1 := Z.out.free 1
    have f2 := Z.out.free 2
    have f3 := Z.out.free 3
    go_wp2_with fail
    obtain ⟨wz, hwz⟩ : ∃ wz, wz = put4 w1 w.heap.size (.int .u64 0) (.int .u64 0) (.int .u64 0) (.int .u64 0) := ⟨_, rfl⟩
    have HZ := put4_blk Z.out (.int .u64 0) (.int .u64 0) (.int .u64 0) (.int .u64 0)
    have HP := Lib.hid (put4_below B1.out (Nat.le_refl _) (.int .u64 0) (.int .u64 0) (.int .u64 0) (.int .u64 0))
    rw [← hwz] at HZ HP
    unfold put4 at hwz
    rw [← hwz]
    have z0 : wz.cell? ⟨w.heap.size, 0, none⟩ = some (.int .u64 0) := HZ.cell 0
    have z1 : wz.cell? ⟨w.heap.size, 1, none⟩ = some (.int .u64 0) := HZ.cell 1
    have z2 : wz.cell? ⟨w.heap.size, 2, none⟩ = some (.int .u64 0) := HZ.cell 2
    have z3 : wz.cell? ⟨w.heap.size, 3, none⟩ = some (.int .u64 0) := HZ.cell 3
    exact bodyPost_ret (v := .agg #[.int .u64 0, .int .u64 0, .int .u64 0, .int .u64 0]) (by simp [results, Tryd.results14, go_sem, z0, z1, z2, z3]) rfl ⟨rfl, HP.out⟩
theorem ofK_ok {K : List (Nat → Nat)} (h : ∀ S ∈ K, okS S) (c : Int) : okS (ofK K c) := by
  unfold ofK
  split
  · rename_i hc
    rw [List.getD_eq_getElem?_getD, List.getElem?_eq_getElem (by omega)]
    exact h _ (List.getElem_mem _)
  · exact zero_ok
/-- What Sample answers for a set. -/
def smp (S : Nat → Nat) : Value := .tuple #[.int .u8 (max (leastS S) 0), .bool (decide (0 ≤ leastS S))]
theorem leastS_in (S : Nat → Nat) : -1 ≤ leastS S ∧ leastS S < 256 := by
  unfold leastS
  have key : ∀ (p : Nat → Bool) n, -1 ≤ firstB p n ∧ firstB p n < n := by
    intro p n
    by_cases h : ∃ i, i < n ∧ p i = true
    · obtain ⟨k, hk, hl⟩ : ∃ k, (k < n ∧ p k = true) ∧ ∀ i, i < k → ¬ (i < n ∧ p i = true) := by
        obtain ⟨i, hi⟩ := h
        induction i using Nat.strongRecOn with
        | ind i ih =>
          by_cases hx : ∃ j, j < i ∧ (j < n ∧ p j = true)
          · obtain ⟨j, hj, hj2⟩ := hx; exact ih j hj hj2
          · exact ⟨i, hi, fun j hj hj2 => hx ⟨j, hj, hj2⟩⟩
      rw [firstB_at hk.2 (fun i hi => by have := hl i hi; cases hp : p i with | false => rfl | true => exact absurd ⟨by omega, hp⟩ this) hk.1]
      omega
    · rw [firstB_none (fun i hi => by cases hp : p i with | false => rfl | true => exact absurd ⟨i, hi, hp⟩ h)]
      omega
  exact key _ 256
theorem sample_of {pv : Value} {S : Nat → Nat} (hS : okS S) (c : Int) (w : World) (hT : TabAt 0 Lib.deBruijn64tab w) (h : Calls Tryd.prog 14 #[pv, .int .i64 c] w fun e w' => e = .returned (setV S) ∧ Below w.heap.size w w') :
    Calls Tryd.prog 15 #[pv, .int .i64 c] w fun e w' => e = .returned (smp S) ∧ Below w.heap.size w w' := by
  have H := Lib.hid h
  have HT := Lib.hid hT
  have LC := Lib.hid (fun w' hh => least_c S hS w' hh)
  have hr := leastS_in S
  unfold smp
  clear h hT hS
  unfold setV at H LC
  generalize leastS S = k at *
  go_enter Tryd.func15, Tryd.ntmps15
  go_wp2_with fail
  refine H.out.mono ?_; rintro e w1 ⟨rfl, k1⟩
  have T1 := Lib.hid (TabAt.below HT.out k1)
  have B1 := Lib.hid k1
  clear k1 HT
  go_wp2_with fail
  refine (LC.out _ T1.out).mono ?_; rintro e w2 ⟨rfl, k2⟩
  have B2 := Lib.hid (below_step B1.out k2)
  clear k2 B1
  by_cases hk : 0 < k
  · have h6 : IntKind.u8.wrap k = k := IntWalk.u8_in _ (by omega)
    have h7 : max k 0 = k := by omega
    have t0 : decide (0 ≤ k) = true := by simp; omega
    have t1 : decide (k < 0) = false := by simp; omega
    have t2 : decide (0 < k) = true := by simp; omega
    go_wp2_with fail
    go_returns
    exact ⟨by rw [h7]; simp [t0], B2.out⟩
  · rcases (show k = 0 ∨ k = -1 by omega) with rfl | rfl
    · go_wp2_with fail
      go_returns
      exact ⟨rfl, B2.out⟩
    · go_wp2_with fail
      go_returns
      exact ⟨rfl, B2.out⟩
end Go.Proofs.YtonicgbejmghkaaDoor
