/- The walks of a class's text. -/
import Derived.Test.YtgcbcmgadllhlaaDoorRanges
import Derived.Test.YtgcbcmgadllhlaaDoorBuilder
import Derived.Test.YtgcbcmgadllhlaaDoorEsc
namespace Go.Proofs.YtgcbcmgadllhlaaDoor
open Go.RowKit
def rangeB (x : Nat × Nat) : List UInt8 := escB x.1 ++ (if x.2 = x.1 then [] else if x.2 = x.1 + 1 then escB x.2 else 45 :: escB x.2)
def rangesB (l : List (Nat × Nat)) : List UInt8 := l.flatMap rangeB
def insideB (S : Nat → Nat) : List UInt8 := rangesB (rangesS S)
theorem escB_len (b : Nat) : (escB b).length ≤ 4 := by unfold escB; split <;> simp
theorem rangeB_len (x : Nat × Nat) : (rangeB x).length ≤ 9 := by
  unfold rangeB
  have h1 := escB_len x.1
  have h2 := escB_len x.2
  split
  · simp; omega
  · split <;> (simp; omega)
theorem rangesB_len : ∀ l, (rangesB l).length ≤ 9 * l.length
  | [] => by simp [rangesB]
  | x :: l => by
    have h := rangesB_len l
    have := rangeB_len x
    unfold rangesB at h ⊢
    rw [List.flatMap_cons, List.length_append, List.length_cons]; omega
/-- A run's ends: in order, below n. -/
theorem runs_ends (p : Nat → Bool) : ∀ n, ∀ x ∈ runs p n, x.1 ≤ x.2 ∧ x.2 < n
  | 0, x, h => by cases h
  | n + 1, x, h => by
    have ih := runs_ends p n
    unfold runs at h
    split at h
    · split at h
      · rename_i h1 h2
        obtain ⟨m, rfl⟩ : ∃ m, n = m + 1 := ⟨n - 1, by omega⟩
        obtain ⟨l, a, e, ha⟩ := runs_last p m (by simpa using h2.2)
        rw [e, setLast_snoc] at h
        rcases List.mem_append.1 h with h | h
        · have := ih x (by rw [e]; exact List.mem_append_left _ h)
          omega
        · have := List.mem_singleton.1 h
          subst this
          exact ⟨by show a ≤ m + 1; omega, by show m + 1 < _; omega⟩
      · rcases List.mem_append.1 h with h | h
        · have := ih x h; omega
        · have := List.mem_singleton.1 h
          subst this
          exact ⟨Nat.le_refl _, by show n < _; omega⟩
    · have := ih x h; omega
theorem rangesS_ends (S : Nat → Nat) (i : Nat) (hi : i < (rangesS S).length) : (rangesS S)[i].1 ≤ (rangesS S)[i].2 ∧ (rangesS S)[i].2 < 256 := runs_ends _ _ _ (List.getElem_mem hi)
theorem rangesS_len (S : Nat → Nat) : (rangesS S).length ≤ 256 := runs_len _ _
theorem pairs_at : ∀ (l : List (Nat × Nat)) (i : Nat) (hi : i < l.length), (pairs l)[2 * i]? = some (.int .u8 l[i].1) ∧ (pairs l)[2 * i + 1]? = some (.int .u8 l[i].2)
  | x :: l, 0, _ => ⟨rfl, rfl⟩
  | x :: l, i + 1, hi => by
    have h := pairs_at l i (by simpa using hi)
    have e1 : (pairs (x :: l))[2 * (i + 1)]? = (pairs l)[2 * i]? := by
      show (Value.int .u8 x.1 :: Value.int .u8 x.2 :: pairs l)[2 * (i + 1)]? = _
      rw [show 2 * (i + 1) = 2 * i + 1 + 1 from by omega, List.getElem?_cons_succ, List.getElem?_cons_succ]
    have e2 : (pairs (x :: l))[2 * (i + 1) + 1]? = (pairs l)[2 * i + 1]? := by
      show (Value.int .u8 x.1 :: Value.int .u8 x.2 :: pairs l)[2 * (i + 1) + 1]? = _
      rw [show 2 * (i + 1) + 1 = 2 * i + 1 + 1 + 1 from by omega, List.getElem?_cons_succ, List.getElem?_cons_succ]
    rw [e1, e2]
    exact h
/-- The two cells of the i-th pair of an owned row. -/
theorem own_pair {w : World} {base g cap i : Nat} {l : List (Nat × Nat)} (h : w.ownsRow base 30 2 (.slice (some ⟨g, 0, none⟩) l.length cap) l.length (pairs l)) (hi : i < l.length) :
    w.cell? ⟨g, i * 2, none⟩ = some (.int .u8 l[i].1) ∧ w.cell? ⟨g, i * 2 + 1, none⟩ = some (.int .u8 l[i].2) := by
  rw [Nat.mul_comm i 2]
  have := pairs_at l i hi
  exact ⟨(h.cellAt _ (by omega)).trans this.1, (h.cellAt _ (by omega)).trans this.2⟩
theorem strCells_bytes (l : List UInt8) : Lib.strCells ⟨l.toArray⟩ = Lib.byteCells l := by
  unfold Lib.strCells; rfl
theorem byteCells_append (a b : List UInt8) : Lib.byteCells (a ++ b) = Lib.byteCells a ++ Lib.byteCells b := by simp [Lib.byteCells]
theorem rangesB_take (l : List (Nat × Nat)) (i : Nat) (hi : i < l.length) : rangesB (l.take (i + 1)) = rangesB (l.take i) ++ rangeB l[i] := by
  unfold rangesB
  rw [List.take_succ_eq_append_getElem hi, List.flatMap_append]; simp
/-- What holds at the loop's head: n0: the heap's size ahead of the call. -/
def InP (n0 : Nat) (v : Value) (x : Nat) : Prop := x < n0 ∨ v.ownBlock = some x
def InAt (S : Nat → Nat) (n0 : Nat) (v : Value) (k : Nat) (w wr : World) : Prop :=
  wr.ownsRow (n0 + 2) 30 2 v (rangesS S).length (pairs (rangesS S)) ∧ Bld (InP n0 v) (n0 + 1) (Lib.byteCells (rangesB ((rangesS S).take k))) wr ∧ Below n0 w wr
/-- .. and within a round: h: the block of the range at hand. -/
def InQ (n0 : Nat) (v : Value) (h x : Nat) : Prop := InP n0 v x ∨ x = h
structure InMid (S : Nat → Nat) (n0 : Nat) (v : Value) (h : Nat) (x : Nat × Nat) (bs : List UInt8) (w wr : World) : Prop where
  row : wr.ownsRow (n0 + 2) 30 2 v (rangesS S).length (pairs (rangesS S))
  bld : Bld (InQ n0 v h) (n0 + 1) (Lib.byteCells bs) wr
  cur : Blk wr h 30 #[.int .u8 x.1, .int .u8 x.2]
  low : Below n0 w wr
  le : n0 ≤ wr.heap.size
theorem InMid.start {S : Nat → Nat} {n0 k : Nat} {v : Value} {w wr : World} (h : InAt S n0 v k w wr) (hn : n0 ≤ wr.heap.size) (x : Nat × Nat) : InMid S n0 v wr.heap.size x (rangesB ((rangesS S).take k)) w (wr.alloc (.cells #[.int .u8 x.1, .int .u8 x.2] 30)) := by
  obtain ⟨h1, h2, h3⟩ := h
  refine ⟨h1.alloc _, ?_, Blk.made _ _ _, h3.alloc hn _, by simp; omega⟩
  exact (h2.far (Q := InQ n0 v wr.heap.size) (fun y hy hq => hq.elim id (fun e => by omega))).below ((Below.refl _ _).alloc (Nat.le_refl _) _)
theorem InMid.below {S : Nat → Nat} {n0 g : Nat} {v : Value} {x : Nat × Nat} {bs : List UInt8} {w wr w' : World} (h : InMid S n0 v g x bs w wr) (k : Below wr.heap.size wr w') : InMid S n0 v g x bs w w' :=
  ⟨own_below h.row k, h.bld.below k, h.cur.below k, h.low.trans (k.mono h.le), Nat.le_trans h.le k.size⟩
theorem InMid.lt {S : Nat → Nat} {n0 g : Nat} {v : Value} {x : Nat × Nat} {bs : List UInt8} {w wr : World} (h : InMid S n0 v g x bs w wr) : ∀ y, InQ n0 v g y → y < wr.heap.size := by
  rintro y ((hy | hy) | hy)
  · exact Nat.lt_of_lt_of_le hy h.le
  · exact (h.row.lt y hy).2
  · rw [hy]; exact h.cur.lt
theorem InMid.wrote {S : Nat → Nat} {n0 g : Nat} {v : Value} {x : Nat × Nat} {bs bs' : List UInt8} {cs : List Value} {w wr w' : World} (h : InMid S n0 v g x bs w wr) (hb : Bld (InQ n0 v g) (n0 + 1) cs w') (e : cs = Lib.byteCells bs') (k : Keep (InQ n0 v g) wr w') : InMid S n0 v g x bs' w w' := by
  subst e
  refine ⟨own_keep h.row k (fun y hy => .inl (.inr hy)), hb, h.cur.keep k (.inr rfl), ?_, Nat.le_trans h.le k.size⟩
  exact h.low.trans (k.below h.le (fun y hy => .inl (.inl hy)))
theorem InMid.done {S : Nat → Nat} {n0 g k : Nat} {v : Value} {x : Nat × Nat} {bs : List UInt8} {w wr : World} (h : InMid S n0 v g x bs w wr) (e : bs = rangesB ((rangesS S).take k)) : InAt S n0 v k w wr :=
  ⟨h.row, by rw [← e]; exact h.bld.far (fun _ _ hq => .inl hq), h.low⟩
theorem cells_snoc (a b : List UInt8) : Lib.byteCells a ++ Lib.strCells ⟨b.toArray⟩ = Lib.byteCells (a ++ b) := by rw [strCells_bytes, byteCells_append]
theorem size_mk (b : List UInt8) : (ByteArray.mk b.toArray).size = b.length := by show b.toArray.size = _; simp
theorem bytes_len (b : List UInt8) : (Lib.byteCells b).length = b.length := by simp [Lib.byteCells]
set_option maxHeartbeats 4000000 in
set_option maxRecDepth 100000 in
theorem inside_c (S : Nat → Nat) (hS : okS S) (w : World) : Calls Tryd.prog 27 #[setV S] w fun e w' => e = .returned (.string ⟨(insideB S).toArray⟩) ∧ Below w.heap.size w w' := by
  have HS := Lib.hid hS
  clear hS
  unfold setV
  go_enter Tryd.func27, Tryd.ntmps27
  go_wp2_with fail
  have RC := ranges_c S HS.out
  unfold setV at RC
  refine (RC _).mono ?_; rintro e w1 ⟨v, rfl, ho, k1⟩
  obtain ⟨ao, cap, rfl, hv⟩ := own_form ho
  have rl := rangesS_len S
  have HO := Lib.hid ho
  have HK := Lib.hid k1
  have HV := Lib.hid hv
  clear ho k1 hv RC
  go_wp2_with fail
  go_loopw [9] (fun i wr => ∃ k : Nat, k ≤ (rangesS S).length ∧ i = .int .i64 k ∧ InAt S w.heap.size (.slice ao (rangesS S).length cap) k w wr) (fun i _ => 256 - (intOf i).toNat)
  case atStart =>
    refine ⟨0, by omega, rfl, own_mono HO.out (by simp), ?_, ?_⟩
    · have hb := builder_new (fun y => y < w.heap.size) (w.alloc (.cells #[.int .u64 (S 0), .int .u64 (S 1), .int .u64 (S 2), .int .u64 (S 3)] 24)) (fun y hy => by simp; omega)
      rw [show (w.alloc (.cells #[.int .u64 (S 0), .int .u64 (S 1), .int .u64 (S 2), .int .u64 (S 3)] 24)).heap.size = w.heap.size + 1 from by simp] at hb
      have hf := hb.far (Q := InP w.heap.size (.slice ao (rangesS S).length cap)) (fun y hy hq => hq.elim id (fun e => by have := (HO.out.lt y e).1; simp at this hy; omega))
      exact hf.below HK.out
    · exact Below.trans (((Below.refl _ _).alloc (Nat.le_refl _) _).alloc (by simp) _) (HK.out.mono (by simp; omega))
  case round =>
    obtain ⟨k, hk, rfl, hst⟩ := hrel
    have hle : w.heap.size ≤ wr.heap.size := hst.2.2.size
    by_cases hlt : k < (rangesS S).length
    · obtain ⟨g, rfl, hg0, hg1⟩ := HV.out (by omega)
      have hp := own_pair hst.1 hlt
      have he := rangesS_ends S k hlt
      have T := Lib.hid (rangesB_take (rangesS S) k hlt)
      generalize (rangesS S)[k] = x at hp he T
      obtain ⟨p0, p1⟩ := hp
      have t1 : decide ((k : Int) < ((rangesS S).length : Nat)) = true := by simp; omega
      have M1 := Lib.hid (InMid.start hst hle x)
      have bl := rangesB_len ((rangesS S).take k)
      have bl2 : ((rangesS S).take k).length ≤ 256 := by rw [List.length_take]; omega
      have el1 := escB_len x.1
      have el2 := escB_len x.2
      clear hst hg0 hg1
      go_wp2_with fail
      refine (esc_c x.1 (by omega) _).mono ?_; rintro e w3 ⟨rfl, k3⟩
      have M2 := Lib.hid (M1.out.below k3)
      clear k3
      go_wp2_with fail
      refine (writeS_c _ (w.heap.size + 1) _ ⟨(escB x.1).toArray⟩ _ M2.out.bld (by rw [size_mk, bytes_len]; omega) M2.out.lt).mono ?_; rintro e w4 ⟨rfl, hb4, k4⟩
      have M3 := Lib.hid (M2.out.wrote hb4 (cells_snoc _ _) k4)
      have c0 : w4.cell? ⟨wr.heap.size, 0, none⟩ = some (.int .u8 x.1) := M3.out.cur.cell 0
      have c1 : w4.cell? ⟨wr.heap.size, 1, none⟩ = some (.int .u8 x.2) := M3.out.cur.cell 1
      clear hb4 k4
      by_cases q0 : x.2 = x.1
      · have t2 : ((x.2 : Int) - (x.1 : Int) == 0) = true := by simp; omega
        have R := Lib.hid (show rangesB ((rangesS S).take k) ++ escB x.1 = rangesB ((rangesS S).take (k + 1)) by rw [T.out]; unfold rangeB; rw [if_pos q0, List.append_nil])
        go_wp2_with fail
        exact ⟨⟨k + 1, by omega, rfl, M3.out.done R.out⟩, by simp [intOf] <;> omega⟩
      · have t2 : ((x.2 : Int) - (x.1 : Int) == 0) = false := by simp; omega
        by_cases q1 : x.2 = x.1 + 1
        · have t3 : ((x.2 : Int) - (x.1 : Int) == 1) = true := by simp; omega
          have R := Lib.hid (show rangesB ((rangesS S).take k) ++ escB x.1 ++ escB x.2 = rangesB ((rangesS S).take (k + 1)) by rw [T.out]; unfold rangeB; rw [if_neg q0, if_pos q1, List.append_assoc])
          clear q0 q1
          go_wp2_with fail
          refine (esc_c x.2 (by omega) _).mono ?_; rintro e w5 ⟨rfl, k5⟩
          have M4 := Lib.hid (M3.out.below k5)
          clear k5 c0 c1
          go_wp2_with fail
          refine (writeS_c _ (w.heap.size + 1) _ ⟨(escB x.2).toArray⟩ _ M4.out.bld (by rw [size_mk, bytes_len]; simp; omega) M4.out.lt).mono ?_; rintro e w6 ⟨rfl, hb6, k6⟩
          have M5 := Lib.hid (M4.out.wrote hb6 (cells_snoc _ _) k6)
          clear hb6 k6
          go_wp2_with fail
          exact ⟨⟨k + 1, by omega, rfl, M5.out.done R.out⟩, by simp [intOf] <;> omega⟩
        · have t3 : ((x.2 : Int) - (x.1 : Int) == 1) = false := by simp; omega
          have R := Lib.hid (show rangesB ((rangesS S).take k) ++ escB x.1 ++ (45 :: escB x.2) = rangesB ((rangesS S).take (k + 1)) by rw [T.out]; unfold rangeB; rw [if_neg q0, if_neg q1, List.append_assoc])
          have D := Lib.hid (show (ByteArray.mk #[45]) ++ ⟨(escB x.2).toArray⟩ = ⟨(45 :: escB x.2).toArray⟩ by rw [ByteArray.ext_iff]; simp)
          clear q0 q1
          go_wp2_with fail
          refine (esc_c x.2 (by omega) _).mono ?_; rintro e w5 ⟨rfl, k5⟩
          have M4 := Lib.hid (M3.out.below k5)
          clear k5 c0 c1
          go_wp2_with fail
          rw [D.out]
          refine (writeS_c _ (w.heap.size + 1) _ ⟨(45 :: escB x.2).toArray⟩ _ M4.out.bld (by rw [size_mk, bytes_len]; simp; omega) M4.out.lt).mono ?_; rintro e w6 ⟨rfl, hb6, k6⟩
          have M5 := Lib.hid (M4.out.wrote hb6 (cells_snoc _ _) k6)
          clear hb6 k6
          go_wp2_with fail
          exact ⟨⟨k + 1, by omega, rfl, M5.out.done R.out⟩, by simp [intOf] <;> omega⟩
    · have ek : k = (rangesS S).length := by omega
      subst ek
      have t1 : decide (((rangesS S).length : Int) < ((rangesS S).length : Nat)) = false := by simp
      have ST := Lib.hid hst
      clear hst
      go_wp2_with fail
      refine (Tryd.Builder_String_any w.heap.size (w.heap.size + 1) (rangesB ((rangesS S).take (rangesS S).length)) _ (ST.out.2.1.is (fun y hy => .inl hy)) hle).mono ?_; rintro e w7 ⟨rfl, k7⟩
      go_wp2_with fail
      go_ret
      exact ⟨ret_str rfl, ST.out.2.2.trans k7⟩
/-- .. of the document's: at the loop's head. -/
def RinAt (S : Nat → Nat) (n0 : Nat) (v : Value) (w wr : World) : Prop := wr.ownsRow (n0 + 1) 30 2 v (rangesS S).length (pairs (rangesS S)) ∧ Below n0 w wr ∧ n0 ≤ wr.heap.size
theorem RinAt.below {S : Nat → Nat} {n0 : Nat} {v : Value} {w wr w' : World} (h : RinAt S n0 v w wr) (k : Below wr.heap.size wr w') : RinAt S n0 v w w' :=
  ⟨own_below h.1 k, h.2.1.trans (k.mono h.2.2), Nat.le_trans h.2.2 k.size⟩
theorem RinAt.drew {S : Nat → Nat} {n0 : Nat} {v : Value} {w wr : World} (h : RinAt S n0 v w wr) : RinAt S n0 v w wr.drew := ⟨h.1, ⟨h.2.1.os, h.2.1.tape, h.2.1.output, h.2.1.size, h.2.1.block⟩, h.2.2⟩
theorem mk_app (a b : List UInt8) : (ByteArray.mk a.toArray) ++ ⟨b.toArray⟩ = ⟨(a ++ b).toArray⟩ := by rw [ByteArray.ext_iff]; simp
set_option maxHeartbeats 4000000 in
set_option maxRecDepth 100000 in
theorem rinside_c (S : Nat → Nat) (hS : okS S) (w : World) : Calls Tryd.prog 28 #[setV S] w fun e w' => e = .returned (.string ⟨(insideB S).toArray⟩) ∧ Below w.heap.size w w' := by
  have HS := Lib.hid hS
  clear hS
  unfold setV
  go_enter Tryd.func28, Tryd.ntmps28
  go_wp2_with fail
  have RC := rranges_c S HS.out
  unfold setV at RC
  refine (RC _).mono ?_; rintro e w1 ⟨v, rfl, ho, k1⟩
  obtain ⟨ao, cap, rfl, hv⟩ := own_form ho
  have rl := rangesS_len S
  have HR := Lib.hid (show RinAt S w.heap.size (.slice ao (rangesS S).length cap) w w1 from ⟨own_mono ho (by simp), Below.trans ((Below.refl _ _).alloc (Nat.le_refl _) _) (k1.mono (by simp)), by have := k1.size; simp at this; omega⟩)
  have HV := Lib.hid hv
  clear ho k1 hv RC
  go_wp2_with fail
  go_loopw [3, 5] (fun s i wr => ∃ k : Nat, k ≤ (rangesS S).length ∧ s = .string ⟨(rangesB ((rangesS S).take k)).toArray⟩ ∧ i = .int .i64 k ∧ RinAt S w.heap.size (.slice ao (rangesS S).length cap) w wr) (fun _ i _ => 256 - (intOf i).toNat)
  case atStart => exact ⟨0, by omega, rfl, rfl, HR.out⟩
  case round =>
    obtain ⟨k, hk, rfl, rfl, hst⟩ := hrel
    by_cases hlt : k < (rangesS S).length
    · obtain ⟨g, rfl, hg0, hg1⟩ := HV.out (by omega)
      have hp := own_pair hst.1 hlt
      have he := rangesS_ends S k hlt
      have T := Lib.hid (rangesB_take (rangesS S) k hlt)
      generalize (rangesS S)[k] = x at hp he T
      obtain ⟨p0, p1⟩ := hp
      have t1 : decide ((k : Int) < ((rangesS S).length : Nat)) = true := by simp; omega
      have ST := Lib.hid hst
      have bl := rangesB_len ((rangesS S).take k)
      have bl2 : ((rangesS S).take k).length ≤ 256 := by rw [List.length_take]; omega
      have el1 := escB_len x.1
      have el2 := escB_len x.2
      clear hst hg0 hg1
      go_wp2_with fail
      go_region
      have S1 := Lib.hid ST.out.drew
      generalize wr.drew = wd at S1
      clear p0 p1
      go_wp2_with fail
      refine (resc_c x.1 (by omega) _).mono ?_; rintro e w3 ⟨rfl, k3⟩
      have S2 := Lib.hid (S1.out.below k3)
      clear k3
      by_cases q0 : x.2 = x.1
      · have t2 : decide ((x.1 : Int) + 1 < (x.2 : Int)) = false := by simp; omega
        have t3 : decide (x.1 < x.2) = false := by simp; omega
        have R := Lib.hid (show (ByteArray.mk (rangesB ((rangesS S).take k)).toArray) ++ ⟨(escB x.1).toArray⟩ = ⟨(rangesB ((rangesS S).take (k + 1))).toArray⟩ by rw [mk_app, T.out]; unfold rangeB; rw [if_pos q0, List.append_nil])
        clear q0
        go_wp2_with fail
        exact ⟨⟨k + 1, by omega, by rw [R.out], rfl, S2.out⟩, by simp [intOf] <;> omega⟩
      · have t3 : decide (x.1 < x.2) = true := by simp; omega
        by_cases q1 : x.2 = x.1 + 1
        · have t2 : decide ((x.1 : Int) + 1 < (x.2 : Int)) = false := by simp; omega
          have R := Lib.hid (show (ByteArray.mk (rangesB ((rangesS S).take k)).toArray) ++ ⟨(escB x.1).toArray⟩ ++ ⟨(escB x.2).toArray⟩ = ⟨(rangesB ((rangesS S).take (k + 1))).toArray⟩ by rw [mk_app, mk_app, T.out]; unfold rangeB; rw [if_neg q0, if_pos q1, List.append_assoc])
          clear q0 q1
          go_wp2_with fail
          refine (resc_c x.2 (by omega) _).mono ?_; rintro e w5 ⟨rfl, k5⟩
          have S3 := Lib.hid (S2.out.below k5)
          clear k5
          go_wp2_with fail
          exact ⟨⟨k + 1, by omega, by rw [R.out], rfl, S3.out⟩, by simp [intOf] <;> omega⟩
        · have t2 : decide ((x.1 : Int) + 1 < (x.2 : Int)) = true := by simp; omega
          have R := Lib.hid (show (ByteArray.mk (rangesB ((rangesS S).take k)).toArray) ++ ⟨(escB x.1).toArray⟩ ++ ⟨#[45]⟩ ++ ⟨(escB x.2).toArray⟩ = ⟨(rangesB ((rangesS S).take (k + 1))).toArray⟩ by rw [show (⟨#[45]⟩ : ByteArray) = ⟨[45].toArray⟩ from rfl, mk_app, mk_app, mk_app, T.out]; unfold rangeB; rw [if_neg q0, if_neg q1]; simp [List.append_assoc])
          clear q0 q1
          go_wp2_with fail
          refine (resc_c x.2 (by omega) _).mono ?_; rintro e w5 ⟨rfl, k5⟩
          have S3 := Lib.hid (S2.out.below k5)
          clear k5
          go_wp2_with fail
          exact ⟨⟨k + 1, by omega, by rw [R.out], rfl, S3.out⟩, by simp [intOf] <;> omega⟩
    · have ek : k = (rangesS S).length := by omega
      subst ek
      have t1 : decide (((rangesS S).length : Int) < ((rangesS S).length : Nat)) = false := by simp
      have ST := Lib.hid hst
      have R := Lib.hid (show rangesB ((rangesS S).take (rangesS S).length) = insideB S by rw [List.take_length]; rfl)
      clear hst
      go_wp2_with fail
      go_ret
      exact ⟨ret_str (by rw [R.out]), ST.out.2.1⟩
end Go.Proofs.YtgcbcmgadllhlaaDoor
