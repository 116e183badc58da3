/- The sparse set: adding, making, dropping. -/
import Derived.Test.YtafcnehinanecaaSparse
import Derived.BigRegion
namespace Go.Proofs.Ytafcnehinanecaa
open Go.RowKit
theorem ints_set (l : List Int) (i : Nat) (v : Int) : (ints l).toArray.setIfInBounds i (.int .i64 v) = (ints (l.set i v)).toArray := by
  unfold ints
  rw [List.setIfInBounds_toArray, List.map_set]
set_option maxHeartbeats 1000000 in
set_option maxRecDepth 100000 in
theorem sadd_no (s : Sp) (h : s.ok) (x : Int) (hc : canAdd s.n s.l x = false) (g r : Nat) (w : World) (hs : SpAt w g r s) : Calls Try.prog 37 #[.pointer (some ⟨g, 0, none⟩), .int .i64 x] w fun e w' => e = .returned (.bool false) ∧ w = w' := by
  have c1 := hs.head.cell 1
  simp at c1
  have hsm := h.small
  have HH := Lib.hid (shas_c s h x g r w hs)
  clear hs
  by_cases h0 : x < 0
  · clear hc
    go_enter Try.func37, Try.ntmps37
    go_wp2_with fail
    go_ret
    exact ⟨rfl, rfl⟩
  · by_cases h1 : (s.n : Int) ≤ x
    · have t1 : decide (x < 0) = false := by simpa using h0
      have t2 : decide ((s.n : Int) ≤ x) = true := by simpa using h1
      clear hc h0
      go_enter Try.func37, Try.ntmps37
      go_wp2_with fail
      go_ret
      exact ⟨rfl, rfl⟩
    · obtain ⟨k, rfl⟩ : ∃ k : Nat, x = k := ⟨x.toNat, by omega⟩
      have t1 : decide ((k : Int) < 0) = false := by simp
      have t2 : decide (s.n ≤ k) = false := by simp; omega
      have hh : hasL s.l k = true := by
        unfold canAdd at hc
        cases hk : hasL s.l k with
        | true => rfl
        | false => rw [hk] at hc; simp at hc; omega
      have HQ := Lib.hid (show Calls Try.prog 54 #[.pointer (some ⟨g, 0, none⟩), .int .i64 (k : Nat)] w fun e w' => e = .returned (.bool true) ∧ w = w' by have := HH.out; rw [hh] at this; exact this)
      clear hc h0 h1 hh HH
      go_enter Try.func37, Try.ntmps37
      go_wp2_with fail
      refine HQ.out.mono ?_; rintro e w1 ⟨rfl, rfl⟩
      go_wp2_with fail
      go_ret
      exact ⟨rfl, rfl⟩
set_option maxHeartbeats 2000000 in
set_option maxRecDepth 100000 in
theorem sadd_yes (s : Sp) (h : s.ok) (x : Nat) (hx : x < s.n) (hn : x ∉ s.l) (g r : Nat) (w : World) (hs : SpAt w g r s) : Calls Try.prog 37 #[.pointer (some ⟨g, 0, none⟩), .int .i64 x] w fun e w' => e = .returned (.bool true) ∧ SpAt w' g r (s.put x) ∧ Only [g, r] w w' := by
  have c0 := hs.head.cell 0
  have c1 := hs.head.cell 1
  have c2 := hs.head.cell 2
  simp at c0 c1 c2
  have hsm := h.small
  have hll := Sp.len_lt h hx hn
  have hsz := h.size
  obtain ⟨p, hp⟩ := h.nat x hx
  have hd : s.rows[s.l.length]? = some (s.rows[s.l.length]'(by omega)) := List.getElem?_eq_getElem (by omega)
  have cp := hs.cell hp
  have cd := hs.cell hd
  have fr := fun i => hs.rows.free i
  have fg := fun i => hs.head.free i
  have f1 := fr s.l.length
  have f2 := fr (s.n + x)
  have f3 := fg 2
  have hne := hs.ne
  have HQ := Lib.hid (show Calls Try.prog 54 #[.pointer (some ⟨g, 0, none⟩), .int .i64 (x : Nat)] w fun e w' => e = .returned (.bool false) ∧ w = w' by have := shas_c s h x g r w hs; rw [hasL_mem, decide_eq_false hn] at this; exact this)
  have t1 : decide ((x : Int) < 0) = false := by simp
  have t2 : decide (s.n ≤ x) = false := by simp; omega
  have t3 : (x : Int) < (s.n : Nat) := by omega
  have t4 : (s.l.length : Int) < (s.n : Nat) := by omega
  have HS := Lib.hid hs
  generalize s.rows[s.l.length]'(by omega) = dv at cd
  clear hs hd hp fr fg h hn
  go_enter Try.func37, Try.ntmps37
  go_wp2_with fail
  refine HQ.out.mono ?_; rintro e w1 ⟨rfl, rfl⟩
  go_upto_region 3 with fail
  go_region
  go_wp2_with fail
  go_ret
  refine ⟨rfl, ⟨?_, ?_, hne⟩, ?_⟩
  · have h1 := ((HS.out.head.far (p := ⟨r, s.l.length, none⟩) hne (.int .i64 x)).far (p := ⟨r, s.n + x, none⟩) hne (.int .i64 s.l.length)).set 2 (.int .i64 ((s.l.length : Nat) + 1 : Int))
    exact (h1.cast (by simp [Sp.put])).drew
  · have h1 := ((HS.out.rows.set s.l.length (.int .i64 x)).set (s.n + x) (.int .i64 s.l.length)).far (p := ⟨g, 2, none⟩) (fun e => hne e.symm) (.int .i64 ((s.l.length : Nat) + 1 : Int))
    exact (h1.cast (by rw [ints_set, ints_set]; rfl)).drew
  · exact ((((Only.refl [g, r] w).set (p := ⟨r, s.l.length, none⟩) (.inl (by simp)) _).set (p := ⟨r, s.n + x, none⟩) (.inl (by simp)) _).set (p := ⟨g, 2, none⟩) (.inl (by simp)) _).drew
/-- Adding, whatever is asked. -/
theorem sadd_c (s : Sp) (h : s.ok) (x : Int) (g r : Nat) (w : World) (hs : SpAt w g r s) : Calls Try.prog 37 #[.pointer (some ⟨g, 0, none⟩), .int .i64 x] w fun e w' => e = .returned (.bool (canAdd s.n s.l x)) ∧ SpAt w' g r (s.add x) ∧ Only [g, r] w w' := by
  cases hc : canAdd s.n s.l x with
  | false =>
    refine (sadd_no s h x hc g r w hs).mono ?_
    rintro e w' ⟨rfl, rfl⟩
    exact ⟨rfl, by unfold Sp.add; rw [hc]; exact hs, Only.refl _ _⟩
  | true =>
    obtain ⟨k, rfl, h1, h2⟩ := canAdd_iff.1 hc
    refine (sadd_yes s h k h1 h2 g r w hs).mono ?_
    rintro e w' ⟨rfl, h3, h4⟩
    exact ⟨rfl, by unfold Sp.add; rw [hc]; exact h3, h4⟩
theorem sadd_nil (x : Int) (w : World) : Calls Try.prog 37 #[.pointer none, .int .i64 x] w fun e w' => e = .returned (.bool false) ∧ w = w' := by
  go_enter Try.func37, Try.ntmps37
  go_wp2
  go_ret
  exact ⟨rfl, rfl⟩
theorem snew_arg (m : Value) (n : Int) (h : n < 0 ∨ 65536 < n) (w : World) : Calls Try.prog 36 #[m, .int .i64 n] w fun e w' => e = .returned (.tuple #[.pointer none, .int .i64 1]) ∧ w = w' := by
  rcases h with h | h
  · go_enter Try.func36, Try.ntmps36
    go_wp2
    go_ret2
    exact ⟨rfl, rfl⟩
  · have t1 : decide (n < 0) = false := by simp; omega
    go_enter Try.func36, Try.ntmps36
    go_wp2
    go_ret2
    exact ⟨rfl, rfl⟩
theorem info_int : (Try.prog.info? 3).map (fun i => (i.zero, i.size, i.bytes)) = some (some (.int .i64 0), 1, 8) := by kernel_rfl
theorem made_ints (k : Nat) : madeCells (Value.int .i64 0).cells k = (ints (List.replicate k 0)).toArray := by
  apply Array.ext'
  rw [show (ints (List.replicate k 0)).toArray.toList = ints (List.replicate k 0) from rfl]
  unfold madeCells ints
  rw [List.map_replicate]
  apply List.ext_getElem
  · simp
  · intro i h1 h2
    simp [Value.cells, Nat.mod_one]
theorem run_make_ints (n : Nat) (h : n ≤ 65536) (w : World) : (Instr.makeSlice 24 (.int .i64 (2 * (n : Int))) (.int .i64 (2 * (n : Int)))).run Try.prog w = .ok (.slice (some ⟨w.heap.size, 0, none⟩) (2 * n) (2 * n)) (w.alloc (.cells (ints (List.replicate (2 * n) 0)).toArray 3)) := by
  obtain ⟨i0, hi, hz0, hz1, hz2⟩ := info_parts info_int
  have := run_makeSlice (P := Try.prog) (w := w) 24 3 i0 (.int .i64 0) Try.underlying24 hi hz0 .i64 .i64 (2 * (n : Int)) (2 * (n : Int)) (by omega) (by omega) (by rw [hz1]; omega) (by rw [hz2]; omega) (by omega)
  rw [this, hz1, show (2 * (n : Int)).toNat = 2 * n from by omega, Nat.mul_one, made_ints]
set_option maxHeartbeats 1000000 in
set_option maxRecDepth 100000 in
theorem snew_c (n : Nat) (h : n ≤ 65536) (w : World) : Calls Try.prog 36 #[.pointer none, .int .i64 n] w fun e w' => ∃ g, e = .returned (.tuple #[.pointer (some ⟨g, 0, none⟩), .int .i64 0]) ∧ SpAt w' g w.heap.size (Sp.new n) ∧ w.heap.size < g ∧ g < w'.heap.size ∧ Below w.heap.size w w' := by
  have t1 : decide ((n : Int) < 0) = false := by simp
  have t2 : decide ((65536 : Int) < (n : Int)) = false := by simp; omega
  have hmk := run_make_ints n h
  go_enter Try.func36, Try.ntmps36
  go_upto_region 6 with fail
  refine wp_region_ext_tail 8 (by kernel_rfl) (by kernel_rfl) ?_
  simp only [List.take_succ_cons, List.take_zero, List.drop_succ_cons, List.drop_zero]
  repeat (go_big_quiet_step (fail))
  refine wpQuiet_nil ?_
  intro _ hw'
  obtain ⟨xq, hw''⟩ := hw'
  subst hw''
  have hb := xq.h
  generalize xq.v = wy at *
  have HB := Lib.hid hb
  clear hb
  have key : ∀ V : Value, V = .slice (some ⟨w.heap.size, n, none⟩) n n → SpAt (wy.alloc (.cells #[.slice (some ⟨w.heap.size, 0, none⟩) n n, V, .int .i64 0] 72)) wy.heap.size w.heap.size (Sp.new n) ∧ w.heap.size < wy.heap.size ∧ wy.heap.size < (wy.alloc (.cells #[.slice (some ⟨w.heap.size, 0, none⟩) n n, V, .int .i64 0] 72)).heap.size ∧ Below w.heap.size w (wy.alloc (.cells #[.slice (some ⟨w.heap.size, 0, none⟩) n n, V, .int .i64 0] 72)) := by
    rintro V rfl
    have hs := HB.out.size
    simp at hs
    exact ⟨⟨Blk.made _ _ _, ((Blk.made w 3 (ints (List.replicate (2 * n) 0)).toArray).below HB.out).alloc _, by omega⟩, by omega, by simp, below_alloc (below_step (below_alloc (Below.refl _ _) _) HB.out) _⟩
  have KEY := Lib.hid key
  clear key
  have h2 : 2 * n - n = n := by omega
  go_wp2_with fail
  all_goals
    go_ret2
    first
    | exact ⟨_, rfl, KEY.out _ rfl⟩
    | exact ⟨_, rfl, KEY.out _ (by obtain rfl : n = 0 := by omega
                                   rfl)⟩
end Go.Proofs.Ytafcnehinanecaa
