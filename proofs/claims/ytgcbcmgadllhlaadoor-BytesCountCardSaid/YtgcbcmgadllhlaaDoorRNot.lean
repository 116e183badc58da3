/- The walks of the document's Set and Not. -/
import Derived.Test.YtgcbcmgadllhlaaDoorLists
import Derived.Deep.RegionWith
namespace Go.Proofs.YtgcbcmgadllhlaaDoor
open Go.RowKit
theorem add_or (x k : Nat) (h : x.testBit k = false) : x + 2 ^ k = x ||| 2 ^ k := by
  have hl : x % 2 ^ (k + 1) < 2 ^ k := by
    have h2 : x % 2 ^ (k + 1) = x % 2 ^ k + 2 ^ k * (x / 2 ^ k % 2) := by rw [Nat.pow_succ, Nat.mod_mul]
    rw [Nat.testBit_eq_decide_div_mod_eq] at h
    have : x / 2 ^ k % 2 = 0 := by have := Nat.mod_two_eq_zero_or_one (x / 2 ^ k); simp at h; omega
    rw [h2, this]
    simpa using Nat.mod_lt x (Nat.two_pow_pos k)
  have hx : x = 2 ^ (k + 1) * (x / 2 ^ (k + 1)) + x % 2 ^ (k + 1) := (Nat.div_add_mod _ _).symm
  generalize x / 2 ^ (k + 1) = a at hx
  generalize x % 2 ^ (k + 1) = b at hx hl
  have hb : b < 2 ^ (k + 1) := by rw [Nat.pow_succ]; omega
  have hb2 : b + 2 ^ k < 2 ^ (k + 1) := by rw [Nat.pow_succ]; omega
  have e1 : b + 2 ^ k = b ||| 2 ^ k := by
    have := Nat.two_pow_add_eq_or_of_lt hl 1
    rw [Nat.mul_one] at this
    rw [Nat.add_comm, this, Nat.or_comm]
  rw [hx, Nat.add_assoc, Nat.two_pow_add_eq_or_of_lt hb2 a, Nat.two_pow_add_eq_or_of_lt hb a, e1, Nat.or_assoc]
theorem has_ins (S : Nat → Nat) (b x : Nat) (_hb : b < 256) (_hx : x < 256) : has (insS S b) x = (decide (x = b) || has S x) := by
  unfold has insS
  by_cases h : x / 64 = b / 64
  · rw [if_pos h, Nat.testBit_or, Nat.testBit_two_pow, Bool.or_comm]
    congr 1
    rw [decide_eq_decide]; omega
  · rw [if_neg h]
    have : decide (x = b) = false := by simp; intro e; exact h (by rw [e])
    rw [this, Bool.false_or]
def ofL (l : List Nat) : Nat → Nat := l.foldl insS (fun _ => 0)
theorem ofL_snoc (l : List Nat) (b : Nat) : ofL (l ++ [b]) = insS (ofL l) b := by unfold ofL; rw [List.foldl_append]; rfl
theorem ofL_take (l : List Nat) (k : Nat) (hk : k < l.length) : ofL (l.take (k + 1)) = insS (ofL (l.take k)) l[k] := by rw [List.take_succ_eq_append_getElem hk, ofL_snoc]
theorem ofL_ok (l : List Nat) : okS (ofL l) := by
  have : ∀ (l : List Nat) S, okS S → okS (l.foldl insS S) := by
    intro l
    induction l with
    | nil => intro S h; exact h
    | cons b l ih => intro S h; exact ih _ (ins_ok h)
  exact this l _ (fun _ => by show 0 < _; omega)
theorem has_ofL (l : List Nat) (hl : ∀ b ∈ l, b < 256) (x : Nat) (hx : x < 256) : has (ofL l) x = decide (x ∈ l) := by
  have : ∀ (l : List Nat) (S : Nat → Nat), (∀ b ∈ l, b < 256) → has (l.foldl insS S) x = (decide (x ∈ l) || has S x) := by
    intro l
    induction l with
    | nil => intro S _; simp
    | cons b l ih =>
      intro S h
      rw [List.foldl_cons, ih _ (fun c hc => h c (List.mem_cons_of_mem _ hc)), has_ins S b x (h b (List.mem_cons_self ..)) hx]
      simp only [List.mem_cons]
      by_cases h1 : x = b <;> by_cases h2 : x ∈ l <;> simp [h1, h2]
  rw [show ofL l = l.foldl insS (fun _ => 0) from rfl, this l _ hl]
  have : has (fun _ => 0) x = false := by unfold has; simp
  rw [this, Bool.or_false]
theorem int_at {w : World} {base g cap k : Nat} {l : List Nat} (h : w.ownsRow base 3 1 (.slice (some ⟨g, 0, none⟩) l.length cap) l.length (ints l)) (hk : k < l.length) : w.cell? ⟨g, k, none⟩ = some (.int .i64 (l[k] : Nat)) := by
  rw [h.cellAt k (by omega)]
  unfold ints
  rw [List.getElem?_map, List.getElem?_eq_getElem hk]; rfl
theorem plus_or (x k : Nat) (hx : x < 18446744073709551616) (hk : k < 64) (h : x.testBit k = false) : IntKind.u64.wrap ((x : Int) + IntKind.u64.wrap (2 ^ k)) = ((x ||| 2 ^ k : Nat) : Int) := by
  rw [pow_wrap k hk, ← add_or x k h]
  have hp : (2 : Nat) ^ k < 18446744073709551616 := Nat.pow_lt_pow_right (n := 64) (a := 2) (by omega) hk
  have hb : x + 2 ^ k < 18446744073709551616 := by rw [add_or x k h]; exact Nat.or_lt_two_pow (n := 64) hx hp
  have e : ((x : Int) + ((2 ^ k : Nat) : Int)) = ((x + 2 ^ k : Nat) : Int) := by rw [Int.natCast_add]
  rw [e]
  generalize x + 2 ^ k = n at hb
  exact IntWalk.u64_in _ (by omega)
/-- What holds at the loop's head. -/
def RsAt (l : List Nat) (n0 base : Nat) (v : Value) (k : Nat) (w wr : World) : Prop :=
  Blk wr (n0 + 1) 24 (setCs (ofL (l.take k))) ∧ Blk wr n0 24 #[.int .u64 0, .int .u64 0, .int .u64 0, .int .u64 0] ∧ wr.ownsRow base 3 1 v l.length (ints l) ∧ Below n0 w wr
theorem own_far {w : World} {base n size : Nat} {e : TypeId} {v : Value} {xs : List Value} (h : w.ownsRow base e size v n xs) {p : Addr} (hp : v.ownBlock ≠ some p.block) (u : Value) : (w.setCell p u).ownsRow base e size v n xs :=
  h.kept (row := some p.block) ⟨rfl, rfl, rfl, by simp [World.setCell], fun k _ hk => Below.heap_setCell _ _ _ _ (fun e => hk (by simp [e]))⟩ (.inr hp)
theorem RsAt.put {l : List Nat} {n0 base k : Nat} {v : Value} {w wr : World} {S : Nat → Nat} {q x : Nat} (h : RsAt l n0 base v k w wr) (hb : Blk wr (n0 + 1) 24 (setCs S)) (_hn : n0 ≤ wr.heap.size) (hv : v.ownBlock ≠ some (n0 + 1)) (e : (setCs S).setIfInBounds q (.int .u64 (x : Int)) = setCs (ofL (l.take (k + 1)))) :
    RsAt l n0 base v (k + 1) w (wr.setCell ⟨n0 + 1, q, none⟩ (.int .u64 (x : Int))).drew := by
  refine ⟨?_, Blk.drew (Blk.far h.2.1 (by simp) _), ?_, ?_⟩
  · rw [← e]; exact Blk.drew (Blk.set hb q _)
  · exact own_far h.2.2.1 (p := ⟨n0 + 1, q, none⟩) hv _
  · have := h.2.2.2.setCell (p := ⟨n0 + 1, q, none⟩) (by simp) (.int .u64 (x : Int))
    exact ⟨this.os, this.tape, this.output, this.size, this.block⟩
theorem RsAt.below {l : List Nat} {n0 base k : Nat} {v : Value} {w wr w' : World} (h : RsAt l n0 base v k w wr) (hn : n0 ≤ wr.heap.size) (b : Below wr.heap.size wr w') : RsAt l n0 base v k w w' :=
  ⟨h.1.below b, h.2.1.below b, own_below h.2.2.1 b, h.2.2.2.trans (b.mono hn)⟩
set_option maxHeartbeats 4000000 in
set_option maxRecDepth 100000 in
theorem rset_c (l : List Nat) (h256 : ∀ b ∈ l, b < 256) (hnd : l.Nodup) (h1 : l.length ≤ 256) (base : Nat) (v : Value) (w : World) (ho : w.ownsRow base 3 1 v l.length (ints l)) :
    Calls Tryd.prog 34 #[v] w fun e w' => e = .returned (setV (ofL l)) ∧ Below w.heap.size w w' := by
  obtain ⟨ao, cap, rfl, hv⟩ := own_form ho
  have HO := Lib.hid ho
  have HV := Lib.hid hv
  clear ho hv
  go_enter Tryd.func34, Tryd.ntmps34
  go_wp2_with fail
  go_loopw [4] (fun i wr => ∃ k : Nat, k ≤ l.length ∧ i = .int .i64 k ∧ RsAt l w.heap.size base (.slice ao l.length cap) k w wr) (fun i _ => 256 - (intOf i).toNat)
  case atStart => exact ⟨0, by omega, rfl, by have := Blk.made (w.alloc (.cells #[.int .u64 0, .int .u64 0, .int .u64 0, .int .u64 0] 24)) 24 #[.int .u64 0, .int .u64 0, .int .u64 0, .int .u64 0]; simpa [setCs, ofL] using this, (Blk.made _ _ _).alloc _, (HO.out.alloc _).alloc _, ((Below.refl _ _).alloc (Nat.le_refl _) _).alloc (by simp) _⟩
  case round =>
    obtain ⟨k, hk, rfl, hst⟩ := hrel
    by_cases hlt : k < l.length
    · obtain ⟨g, rfl, hg0, hg1⟩ := HV.out (by omega)
      have hi := int_at hst.2.2.1 hlt
      have hb := h256 l[k] (List.getElem_mem hlt)
      have T := Lib.hid (ofL_take l k hlt)
      have hno : has (ofL (l.take k)) l[k] = false := by
        rw [has_ofL _ (fun b hb => h256 b (List.mem_of_mem_take hb)) _ hb]
        simp
        intro hm
        obtain ⟨j, hj, e⟩ := List.getElem_of_mem hm
        rw [List.getElem_take] at e
        have hj' : j < k := by rw [List.length_take] at hj; omega
        have := (List.getElem_inj hnd).1 e
        omega
      have hok := ofL_ok (l.take k)
      have t1 : decide ((k : Int) < (l.length : Nat)) = true := by simp; omega
      have hle : w.heap.size ≤ wr.heap.size := hst.2.2.2.size
      have c0 : wr.cell? ⟨w.heap.size + 1, 0, none⟩ = some (.int .u64 (ofL (l.take k) 0)) := hst.1.cell 0
      have c1 : wr.cell? ⟨w.heap.size + 1, 1, none⟩ = some (.int .u64 (ofL (l.take k) 1)) := hst.1.cell 1
      have c2 : wr.cell? ⟨w.heap.size + 1, 2, none⟩ = some (.int .u64 (ofL (l.take k) 2)) := hst.1.cell 2
      have c3 : wr.cell? ⟨w.heap.size + 1, 3, none⟩ = some (.int .u64 (ofL (l.take k) 3)) := hst.1.cell 3
      have HI := Lib.hid (fun (w1 : World) (h : RsAt l w.heap.size base (.slice (some ⟨g, 0, none⟩) l.length cap) k w w1) => int_at h.2.2.1 hlt)
      generalize l[k] = b at hi hb T hno HI
      have ST := Lib.hid hst
      have GNE := Lib.hid (show (Value.slice (some ⟨g, 0, none⟩) l.length cap).ownBlock ≠ some (w.heap.size + 1) by simp [Value.ownBlock]; omega)
      clear hst hg0 hg1
      have HC := Lib.hid (fun (w1 : World) (h : RsAt l w.heap.size base (.slice (some ⟨g, 0, none⟩) l.length cap) k w w1) => h.1)
      generalize ofL (l.take k) = S at c0 c1 c2 c3 hno hok T HC
      have HH := rhas_c S hok b hb
      unfold setV at HH
      rw [hno] at HH
      have HN := Lib.hid hno
      have OK := Lib.hid hok
      clear hno hok
      go_upto_region 5 with fail
      go_cut [17] (fun t wx => t = .bool true ∧ Below wr.heap.size wr wx)
      case first =>
        go_region_with (refine (HH _).mono ?_; rintro e w1 ⟨rfl, k1⟩)
        all_goals (go_wp2_with fail; go_meet; exact ⟨rfl, ⟨k1.os, k1.tape, k1.output, k1.size, k1.block⟩⟩)
      case rest =>
        obtain ⟨rfl, kc⟩ := hcut
        have SC := Lib.hid (ST.out.below hle kc)
        have HB := Lib.hid (HC.out _ SC.out)
        have ci := HI.out _ SC.out
        have d0 : wc.cell? ⟨w.heap.size + 1, 0, none⟩ = some (.int .u64 (S 0)) := HB.out.cell 0
        have d1 : wc.cell? ⟨w.heap.size + 1, 1, none⟩ = some (.int .u64 (S 1)) := HB.out.cell 1
        have d2 : wc.cell? ⟨w.heap.size + 1, 2, none⟩ = some (.int .u64 (S 2)) := HB.out.cell 2
        have d3 : wc.cell? ⟨w.heap.size + 1, 3, none⟩ = some (.int .u64 (S 3)) := HB.out.cell 3
        have f0 : wc.frozen? ⟨w.heap.size + 1, 0, none⟩ = false := HB.out.free 0
        have f1 : wc.frozen? ⟨w.heap.size + 1, 1, none⟩ = false := HB.out.free 1
        have f2 : wc.frozen? ⟨w.heap.size + 1, 2, none⟩ = false := HB.out.free 2
        have f3 : wc.frozen? ⟨w.heap.size + 1, 3, none⟩ = false := HB.out.free 3
        have kcs := Lib.hid kc.size
        clear kc c0 c1 c2 c3 hi HH
        rcases (show b / 64 = 0 ∨ b / 64 = 1 ∨ b / 64 = 2 ∨ b / 64 = 3 by omega) with q | q | q | q
        · have hq : (b : Int) / 64 = 0 := by omega
          have hm := plus_or (S 0) (b % 64) (OK.out 0) (by omega) (by have := HN.out; unfold has at this; rw [q] at this; exact this)
          have R := Lib.hid (ins_cs (S := S) q (by decide))
          obtain ⟨x, hx⟩ : ∃ x, S 0 ||| 2 ^ (b % 64) = x := ⟨_, rfl⟩
          rw [hx] at hm R
          clear q hx
          go_wp2_with fail
          go_region
          go_wp2_with fail
          exact ⟨⟨k + 1, by omega, rfl, SC.out.put HB.out (Nat.le_trans hle kcs.out) GNE.out (by rw [T.out]; exact R.out)⟩, by simp [intOf] <;> omega⟩
        · have hq : (b : Int) / 64 = 1 := by omega
          have hm := plus_or (S 1) (b % 64) (OK.out 1) (by omega) (by have := HN.out; unfold has at this; rw [q] at this; exact this)
          have R := Lib.hid (ins_cs (S := S) q (by decide))
          obtain ⟨x, hx⟩ : ∃ x, S 1 ||| 2 ^ (b % 64) = x := ⟨_, rfl⟩
          rw [hx] at hm R
          clear q hx
          go_wp2_with fail
          go_region
          go_wp2_with fail
          exact ⟨⟨k + 1, by omega, rfl, SC.out.put HB.out (Nat.le_trans hle kcs.out) GNE.out (by rw [T.out]; exact R.out)⟩, by simp [intOf] <;> omega⟩
        · have hq : (b : Int) / 64 = 2 := by omega
          have hm := plus_or (S 2) (b % 64) (OK.out 2) (by omega) (by have := HN.out; unfold has at this; rw [q] at this; exact this)
          have R := Lib.hid (ins_cs (S := S) q (by decide))
          obtain ⟨x, hx⟩ : ∃ x, S 2 ||| 2 ^ (b % 64) = x := ⟨_, rfl⟩
          rw [hx] at hm R
          clear q hx
          go_wp2_with fail
          go_region
          go_wp2_with fail
          exact ⟨⟨k + 1, by omega, rfl, SC.out.put HB.out (Nat.le_trans hle kcs.out) GNE.out (by rw [T.out]; exact R.out)⟩, by simp [intOf] <;> omega⟩
        · have hq : (b : Int) / 64 = 3 := by omega
          have hm := plus_or (S 3) (b % 64) (OK.out 3) (by omega) (by have := HN.out; unfold has at this; rw [q] at this; exact this)
          have R := Lib.hid (ins_cs (S := S) q (by decide))
          obtain ⟨x, hx⟩ : ∃ x, S 3 ||| 2 ^ (b % 64) = x := ⟨_, rfl⟩
          rw [hx] at hm R
          clear q hx
          go_wp2_with fail
          go_region
          go_wp2_with fail
          exact ⟨⟨k + 1, by omega, rfl, SC.out.put HB.out (Nat.le_trans hle kcs.out) GNE.out (by rw [T.out]; exact R.out)⟩, by simp [intOf] <;> omega⟩
    · have ek : k = l.length := by omega
      subst ek
      have t1 : decide ((l.length : Int) < (l.length : Nat)) = false := by simp
      rw [RsAt, List.take_length] at hst
      obtain ⟨S, hS⟩ : ∃ S, S = ofL l := ⟨_, rfl⟩
      rw [← hS] at hst
      have E := Lib.hid hS
      clear hS
      have HB := Lib.hid hst.1
      have HW := Lib.hid hst.2.2.2
      have HZ := Lib.hid hst.2.1
      have d0 : wr.cell? ⟨w.heap.size + 1, 0, none⟩ = some (.int .u64 (S 0)) := HB.out.cell 0
      have d1 : wr.cell? ⟨w.heap.size + 1, 1, none⟩ = some (.int .u64 (S 1)) := HB.out.cell 1
      have d2 : wr.cell? ⟨w.heap.size + 1, 2, none⟩ = some (.int .u64 (S 2)) := HB.out.cell 2
      have d3 : wr.cell? ⟨w.heap.size + 1, 3, none⟩ = some (.int .u64 (S 3)) := HB.out.cell 3
      have e0 : wr.cell? ⟨w.heap.size, 0, none⟩ = some (.int .u64 0) := HZ.out.cell 0
      have e1 : wr.cell? ⟨w.heap.size, 1, none⟩ = some (.int .u64 0) := HZ.out.cell 1
      have e2 : wr.cell? ⟨w.heap.size, 2, none⟩ = some (.int .u64 0) := HZ.out.cell 2
      have e3 : wr.cell? ⟨w.heap.size, 3, none⟩ = some (.int .u64 0) := HZ.out.cell 3
      have f0 : wr.frozen? ⟨w.heap.size, 0, none⟩ = false := HZ.out.free 0
      have f1 : wr.frozen? ⟨w.heap.size, 1, none⟩ = false := HZ.out.free 1
      have f2 : wr.frozen? ⟨w.heap.size, 2, none⟩ = false := HZ.out.free 2
      have f3 : wr.frozen? ⟨w.heap.size, 3, none⟩ = false := HZ.out.free 3
      clear hst
      go_wp2_with fail
      have Z := (((HZ.out.set 0 (.int .u64 (S 0))).set 1 (.int .u64 (S 1))).set 2 (.int .u64 (S 2))).set 3 (.int .u64 (S 3))
      have W := (((HW.out.setCell (p := ⟨w.heap.size, 0, none⟩) (Nat.le_refl _) (.int .u64 (S 0))).setCell (p := ⟨w.heap.size, 1, none⟩) (Nat.le_refl _) (.int .u64 (S 1))).setCell (p := ⟨w.heap.size, 2, none⟩) (Nat.le_refl _) (.int .u64 (S 2))).setCell (p := ⟨w.heap.size, 3, none⟩) (Nat.le_refl _) (.int .u64 (S 3))
      generalize (((wr.setCell _ _).setCell _ _).setCell _ _).setCell _ _ = wz at Z W
      have z0 : wz.cell? ⟨w.heap.size, 0, none⟩ = some (.int .u64 (S 0)) := Z.cell 0
      have z1 : wz.cell? ⟨w.heap.size, 1, none⟩ = some (.int .u64 (S 1)) := Z.cell 1
      have z2 : wz.cell? ⟨w.heap.size, 2, none⟩ = some (.int .u64 (S 2)) := Z.cell 2
      have z3 : wz.cell? ⟨w.heap.size, 3, none⟩ = some (.int .u64 (S 3)) := Z.cell 3
      exact bodyPost_ret (v := setV S) (by simp [setV, results, Tryd.results34, go_sem, z0, z1, z2, z3]) rfl ⟨by rw [E.out], W⟩
theorem upto_mem (p : Nat → Bool) : ∀ n x, x ∈ upto p n ↔ x < n ∧ p x = true
  | 0, x => by simp [upto]
  | n + 1, x => by
    have ih := upto_mem p n x
    unfold upto
    split
    · rename_i h
      rw [List.mem_append, ih, List.mem_singleton]
      constructor
      · rintro (⟨h1, h2⟩ | rfl)
        · exact ⟨by omega, h2⟩
        · exact ⟨by omega, h⟩
      · rintro ⟨h1, h2⟩
        by_cases e : x = n
        · exact .inr e
        · exact .inl ⟨by omega, h2⟩
    · rename_i h
      rw [ih]
      constructor
      · rintro ⟨h1, h2⟩; exact ⟨by omega, h2⟩
      · rintro ⟨h1, h2⟩
        refine ⟨?_, h2⟩
        by_cases e : x = n
        · subst e; exact absurd h2 h
        · omega
theorem upto_nodup (p : Nat → Bool) : ∀ n, (upto p n).Nodup
  | 0 => List.nodup_nil
  | n + 1 => by
    have ih := upto_nodup p n
    unfold upto
    split
    · rw [List.nodup_append]
      refine ⟨ih, by simp, ?_⟩
      intro a ha b hb e
      have h1 := ((upto_mem p n a).1 ha).1
      have h2 := List.mem_singleton.1 hb
      omega
    · exact ih
theorem upto_fact (p : Nat → Bool) : (∀ b ∈ upto p 256, b < 256) ∧ (upto p 256).Nodup := ⟨fun b hb => ((upto_mem p 256 b).1 hb).1, upto_nodup p 256⟩
set_option maxHeartbeats 1000000 in
set_option maxRecDepth 100000 in
theorem rnot_c (S : Nat → Nat) (hS : okS S) (w : World) : Calls Tryd.prog 29 #[setV S] w fun e w' => e = .returned (setV (ofL (upto (fun b => !has S b) 256))) ∧ Below w.heap.size w w' := by
  have HS := Lib.hid hS
  obtain ⟨i0, hi, hz0, hz1, hz2⟩ := info_parts info_int
  clear hS
  unfold setV
  go_enter Tryd.func29, Tryd.ntmps29
  go_wp2_with fail
  go_loopw [3, 4] (fun v i wr => ∃ k : Nat, k ≤ 256 ∧ i = .int .i64 k ∧ Blk wr w.heap.size 24 (setCs S) ∧ Blk wr (w.heap.size + 1) 24 #[.int .u64 0, .int .u64 0, .int .u64 0, .int .u64 0] ∧ wr.ownsRow (w.heap.size + 2) 3 1 v (upto (fun b => !has S b) k).length (ints (upto (fun b => !has S b) k)) ∧ Below w.heap.size w wr) (fun _ i _ => 256 - (intOf i).toNat)
  case atStart => exact ⟨0, by omega, rfl, Blk.alloc (Blk.made _ _ _) _, by have := Blk.made (w.alloc (.cells #[.int .u64 (S 0), .int .u64 (S 1), .int .u64 (S 2), .int .u64 (S 3)] 24)) 24 #[.int .u64 0, .int .u64 0, .int .u64 0, .int .u64 0]; simpa using this, World.ownsRow_nil _ _ _ _, below_alloc (below_alloc (Below.refl _ _) _) _⟩
  case round =>
    obtain ⟨k, hk, rfl, hb, hz, hown, hw⟩ := hrel
    have c0 : wr.cell? ⟨w.heap.size, 0, none⟩ = some (.int .u64 (S 0)) := hb.cell 0
    have c1 : wr.cell? ⟨w.heap.size, 1, none⟩ = some (.int .u64 (S 1)) := hb.cell 1
    have c2 : wr.cell? ⟨w.heap.size, 2, none⟩ = some (.int .u64 (S 2)) := hb.cell 2
    have c3 : wr.cell? ⟨w.heap.size, 3, none⟩ = some (.int .u64 (S 3)) := hb.cell 3
    have HB := Lib.hid hb
    have HW := Lib.hid hw
    have HZ := Lib.hid hz
    have HOWN := Lib.hid hown
    clear hb hz hw hown
    by_cases hlt : k < 256
    · go_wp2_with fail
      refine (rhas_c S HS.out k hlt _).mono ?_; rintro e w1 ⟨rfl, k1⟩
      have hown1 := own_below HOWN.out k1
      have HB1 := Lib.hid (Blk.below HB.out k1)
      have HZ1 := Lib.hid (Blk.below HZ.out k1)
      have HW1 := Lib.hid (below_step HW.out k1)
      clear k1 c0 c1 c2 c3
      by_cases hh : has S k = false
      · have U := Lib.hid (show upto (fun b => !has S b) (k + 1) = upto (fun b => !has S b) k ++ [k] by show (if (!has S k) = true then _ else _) = _; rw [if_pos (by rw [hh]; rfl)])
        have ul := upto_len (fun b => !has S b) k
        have hbl := HZ1.out.lt
        go_wp2_with (at_builtin; refine wpList_append_own _ rfl _ _ 25 rfl (w.heap.size + 2) 3 i0 (.int .i64 0) 1 8 Tryd.underlying25 hi hz0 hz1 hz2 rfl (by decide) _ _ _ rfl (hown1.alloc _) ⟨w1.heap.size, 0, none⟩ 1 1 [.int .i64 (k : Int)] rfl rfl ?c1 ?c2 ?c3 ?c4 ?c5 ?_)
        case c1 => exact cell_one_new _ _ _
        case c2 => intro u hu; simp at hu; (try subst hu); rfl
        case c3 => unfold maxLen; omega
        case c4 => omega
        case c5 => first | omega | (simp; omega) | simp
        intro v' w2 hown2 hgrow _
        have HZ2 := Lib.hid (Blk.grown (Blk.alloc HZ1.out _) hgrow (own_ne hown1 (by omega)))
        have HB2 := Lib.hid (Blk.grown (Blk.alloc HB1.out _) hgrow (own_ne hown1 (by omega)))
        have HW2 := Lib.hid (Below.ofGrown (below_alloc HW1.out _) (hown1.alloc _) hgrow (by omega) (by first | omega | (simp; omega) | simp))
        have HO2 := Lib.hid hown2
        clear hown1 hown2 hgrow hh
        go_wp2_with fail
        go_roundw
        case rel => exact ⟨k + 1, by omega, by go_num, HB2.out, HZ2.out, by rw [U.out]; have := HO2.out; simpa [ints] using this, HW2.out⟩
        case measure => simp [intOf] <;> omega
      · have hh' : has S k = true := by simpa using hh
        have U := Lib.hid (show upto (fun b => !has S b) (k + 1) = upto (fun b => !has S b) k by show (if (!has S k) = true then _ else _) = _; rw [if_neg (by rw [hh']; decide)])
        have HO1 := Lib.hid hown1
        clear hh hown1
        go_wp2_with fail
        go_roundw
        case rel => exact ⟨k + 1, by omega, by go_num, HB1.out, HZ1.out, by rw [U.out]; exact HO1.out, HW1.out⟩
        case measure => simp [intOf] <;> omega
    · have e : k = 256 := by omega
      subst e
      have t1 : decide (((256 : Nat) : Int) < 256) = false := by decide
      have L := Lib.hid (upto_fact (fun b => !has S b))
      have HL := Lib.hid (fun wx h => rset_c (upto (fun b => !has S b) 256) (L.out).1 (L.out).2 (upto_len _ _) (w.heap.size + 2) u3 wx h)
      obtain ⟨l, hl⟩ : ∃ l, l = upto (fun b => !has S b) 256 := ⟨_, rfl⟩
      rw [← hl] at HOWN HL
      have EL := Lib.hid hl
      clear hl
      obtain ⟨T, hT⟩ : ∃ T, T = ofL l := ⟨_, rfl⟩
      have E := Lib.hid hT
      clear hT
      clear c0 c1 c2 c3
      go_wp2_with fail
      refine (HL.out _ HOWN.out).mono ?_; rintro e w1 ⟨rfl, k1⟩
      have HZ1 := Lib.hid (Blk.below HZ.out k1)
      have HW1 := Lib.hid (below_step HW.out k1)
      rw [← E.out]
      have f0 : w1.frozen? ⟨w.heap.size + 1, 0, none⟩ = false := HZ1.out.free 0
      have f1 : w1.frozen? ⟨w.heap.size + 1, 1, none⟩ = false := HZ1.out.free 1
      have f2 : w1.frozen? ⟨w.heap.size + 1, 2, none⟩ = false := HZ1.out.free 2
      have f3 : w1.frozen? ⟨w.heap.size + 1, 3, none⟩ = false := HZ1.out.free 3
      have e0 : w1.cell? ⟨w.heap.size + 1, 0, none⟩ = some (.int .u64 0) := HZ1.out.cell 0
      have e1 : w1.cell? ⟨w.heap.size + 1, 1, none⟩ = some (.int .u64 0) := HZ1.out.cell 1
      have e2 : w1.cell? ⟨w.heap.size + 1, 2, none⟩ = some (.int .u64 0) := HZ1.out.cell 2
      have e3 : w1.cell? ⟨w.heap.size + 1, 3, none⟩ = some (.int .u64 0) := HZ1.out.cell 3
      clear k1
      unfold setV
      go_wp2_with fail
      have Z := (((HZ1.out.set 0 (.int .u64 (T 0))).set 1 (.int .u64 (T 1))).set 2 (.int .u64 (T 2))).set 3 (.int .u64 (T 3))
      have W := (((HW1.out.setCell (p := ⟨w.heap.size + 1, 0, none⟩) (by simp) (.int .u64 (T 0))).setCell (p := ⟨w.heap.size + 1, 1, none⟩) (by simp) (.int .u64 (T 1))).setCell (p := ⟨w.heap.size + 1, 2, none⟩) (by simp) (.int .u64 (T 2))).setCell (p := ⟨w.heap.size + 1, 3, none⟩) (by simp) (.int .u64 (T 3))
      generalize (((w1.setCell _ _).setCell _ _).setCell _ _).setCell _ _ = wz at Z W
      have z0 : wz.cell? ⟨w.heap.size + 1, 0, none⟩ = some (.int .u64 (T 0)) := Z.cell 0
      have z1 : wz.cell? ⟨w.heap.size + 1, 1, none⟩ = some (.int .u64 (T 1)) := Z.cell 1
      have z2 : wz.cell? ⟨w.heap.size + 1, 2, none⟩ = some (.int .u64 (T 2)) := Z.cell 2
      have z3 : wz.cell? ⟨w.heap.size + 1, 3, none⟩ = some (.int .u64 (T 3)) := Z.cell 3
      exact bodyPost_ret (v := setV T) (by simp [setV, results, Tryd.results29, go_sem, z0, z1, z2, z3]) rfl ⟨by rw [E.out, EL.out]; rfl, W⟩
/-- Sets with the same bytes are the same. -/
theorem setV_eq {S T : Nat → Nat} (hS : okS S) (hT : okS T) (h : ∀ b, b < 256 → has S b = has T b) : setV S = setV T := by
  have w : ∀ i, i < 4 → S i = T i := fun i hi => by
    apply Nat.eq_of_testBit_eq
    intro k
    by_cases hk : k < 64
    · have := h (64 * i + k) (by omega)
      unfold has at this
      rw [show (64 * i + k) / 64 = i from by omega, show (64 * i + k) % 64 = k from by omega] at this
      exact this
    · have h1 : S i < 2 ^ k := Nat.lt_of_lt_of_le (hS i) (Nat.pow_le_pow_right (n := 2) (by omega) (show 64 ≤ k by omega))
      have h2 : T i < 2 ^ k := Nat.lt_of_lt_of_le (hT i) (Nat.pow_le_pow_right (n := 2) (by omega) (show 64 ≤ k by omega))
      rw [Nat.testBit_lt_two_pow h1, Nat.testBit_lt_two_pow h2]
  unfold setV
  rw [w 0 (by decide), w 1 (by decide), w 2 (by decide), w 3 (by decide)]
def notS (S : Nat → Nat) (i : Nat) : Nat := 18446744073709551615 - S i
theorem not_ok {S : Nat → Nat} : okS (notS S) := fun i => by unfold notS; omega
theorem has_not {S : Nat → Nat} (hS : okS S) (b : Nat) : has (notS S) b = !has S b := by
  unfold has notS
  have := Nat.testBit_two_pow_sub_succ (n := 64) (show S (b / 64) < 2 ^ 64 from hS _) (b % 64)
  rw [show 2 ^ 64 - (S (b / 64) + 1) = 18446744073709551615 - S (b / 64) from by omega] at this
  rw [this, show decide (b % 64 < 64) = true from by simp; omega, Bool.true_and]
theorem rnot_v (S : Nat → Nat) (hS : okS S) : setV (ofL (upto (fun b => !has S b) 256)) = setV (notS S) := by
  refine setV_eq (ofL_ok _) not_ok (fun b hb => ?_)
  rw [has_ofL _ (upto_fact _).1 b hb, has_not hS, Bool.eq_iff_iff, decide_eq_true_iff, upto_mem]
  simp [hb]
end Go.Proofs.YtgcbcmgadllhlaaDoor
