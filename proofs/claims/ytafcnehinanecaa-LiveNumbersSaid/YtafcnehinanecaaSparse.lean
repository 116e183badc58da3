/- The walks of the sparse set. -/
import Derived.Test.YtafcnehinanecaaRef03
import Derived.Test.YtafcnehinanecaaMeter
namespace Go.Proofs.Ytafcnehinanecaa
open Go.RowKit
/-- The set s lies in block g, its cells in block r. -/
structure SpAt (w : World) (g r : Nat) (s : Sp) : Prop where
  head : Blk w g 72 #[.slice (some ⟨r, 0, none⟩) s.n s.n, .slice (some ⟨r, s.n, none⟩) s.n s.n, .int .i64 s.l.length]
  rows : Blk w r 3 (ints s.rows).toArray
  ne : g ≠ r
theorem SpAt.below {w w' : World} {g r : Nat} {s : Sp} (h : SpAt w g r s) (k : Below w.heap.size w w') : SpAt w' g r s := ⟨h.head.below k, h.rows.below k, h.ne⟩
theorem SpAt.only {S : List Nat} {w w' : World} {g r : Nat} {s : Sp} (h : SpAt w g r s) (k : Only S w w') (hg : g ∉ S) (hr : r ∉ S) : SpAt w' g r s := ⟨h.head.only k hg, h.rows.only k hr, h.ne⟩
theorem SpAt.drewN {w : World} {g r : Nat} {s : Sp} (h : SpAt w g r s) (n : Nat) : SpAt (w.drewN n) g r s := ⟨h.head, h.rows, h.ne⟩
theorem SpAt.cell {w : World} {g r : Nat} {s : Sp} (h : SpAt w g r s) {i : Nat} {v : Int} (hv : s.rows[i]? = some v) : w.cell? ⟨r, i, none⟩ = some (.int .i64 v) := by
  rw [h.rows.cell]
  unfold ints
  simp [hv]
theorem int_beq (y k : Nat) : ((y : Int) == (k : Int)) = decide (y = k) := by rw [Bool.eq_iff_iff, beq_iff_eq, decide_eq_true_eq]; omega
set_option maxHeartbeats 1000000 in
set_option maxRecDepth 100000 in
theorem shas_c (s : Sp) (h : s.ok) (x : Int) (g r : Nat) (w : World) (hs : SpAt w g r s) : Calls Try.prog 54 #[.pointer (some ⟨g, 0, none⟩), .int .i64 x] w fun e w' => e = .returned (.bool (hasL s.l x)) ∧ w = w' := by
  have c0 := hs.head.cell 0
  have c1 := hs.head.cell 1
  have c2 := hs.head.cell 2
  have hsm := h.small
  have HS := Lib.hid hs
  simp at c0 c1 c2
  clear hs
  by_cases h0 : x < 0
  · have HX := Lib.hid (hasL_neg s.l x h0)
    go_enter Try.func54, Try.ntmps54
    go_wp2_with fail
    go_ret
    exact ⟨ret_bool (by rw [HX.out]), rfl⟩
  · by_cases h1 : (s.n : Int) ≤ x
    · have HX := Lib.hid (hasL_big h.lt x h1)
      have t1 : decide (x < 0) = false := by simpa using h0
      have t2 : decide ((s.n : Int) ≤ x) = true := by simpa using h1
      go_enter Try.func54, Try.ntmps54
      go_wp2_with fail
      go_ret
      exact ⟨ret_bool (by rw [HX.out]), rfl⟩
    · obtain ⟨k, rfl⟩ : ∃ k : Nat, x = k := ⟨x.toNat, by omega⟩
      have hk : k < s.n := by omega
      have t1 : decide ((k : Int) < 0) = false := by simp
      have t2 : decide (s.n ≤ k) = false := by simp; omega
      have t3 : (k : Int) < (s.n : Nat) := by omega
      obtain ⟨p, hp, hq⟩ := Sp.has_at h hk
      have cp := HS.out.cell hp
      clear h0 h1
      rcases hq with ⟨h1, h2⟩ | ⟨y, h1, h2, h3⟩
      · have t4 : decide (p < s.l.length) = false := by simp; omega
        have HX := Lib.hid h2
        clear h2
        go_enter Try.func54, Try.ntmps54
        go_wp2_with fail
        go_ret
        exact ⟨ret_bool (by rw [HX.out]), rfl⟩
      · have cy := HS.out.cell h2
        have t4 : decide (p < s.l.length) = true := by simp; omega
        have hll := Sp.len_le h
        have t5 : (p : Int) < (s.n : Nat) := by omega
        have HX := Lib.hid h3
        clear h3
        go_enter Try.func54, Try.ntmps54
        go_wp2_with fail
        go_ret
        exact ⟨ret_bool (by rw [HX.out, int_beq]), rfl⟩
set_option maxHeartbeats 1000000 in
set_option maxRecDepth 100000 in
theorem shas_nil (x : Int) (w : World) : Calls Try.prog 54 #[.pointer none, .int .i64 x] w fun e w' => e = .returned (.bool false) ∧ w = w' := by
  go_enter Try.func54, Try.ntmps54
  go_wp2
  go_ret
  exact ⟨rfl, rfl⟩
theorem slen_c (s : Sp) (g r : Nat) (w : World) (hs : SpAt w g r s) : Calls Try.prog 47 #[.pointer (some ⟨g, 0, none⟩)] w fun e w' => e = .returned (.int .i64 s.l.length) ∧ w = w' := by
  have c2 := hs.head.cell 2
  simp at c2
  clear hs
  go_enter Try.func47, Try.ntmps47
  go_wp2
  go_ret
  exact ⟨rfl, rfl⟩
theorem slen_nil (w : World) : Calls Try.prog 47 #[.pointer none] w fun e w' => e = .returned (.int .i64 0) ∧ w = w' := by
  go_enter Try.func47, Try.ntmps47
  go_wp2
  go_ret
  exact ⟨rfl, rfl⟩
def atL (l : List Nat) (x : Int) : Int := if x < 0 then -1 else if h : x.toNat < l.length then (l[x.toNat] : Nat) else -1
set_option maxHeartbeats 1000000 in
set_option maxRecDepth 100000 in
theorem sat_c (s : Sp) (h : s.ok) (x : Int) (g r : Nat) (w : World) (hs : SpAt w g r s) : Calls Try.prog 48 #[.pointer (some ⟨g, 0, none⟩), .int .i64 x] w fun e w' => e = .returned (.int .i64 (atL s.l x)) ∧ w = w' := by
  have c0 := hs.head.cell 0
  simp at c0
  have hsm := h.small
  have hll := Sp.len_le h
  have SL := Lib.hid (slen_c s g r w hs)
  have HS := Lib.hid hs
  clear hs
  by_cases h0 : x < 0
  · have HX := Lib.hid (show atL s.l x = -1 by unfold atL; rw [if_pos h0])
    go_enter Try.func48, Try.ntmps48
    go_wp2_with fail
    go_ret
    exact ⟨ret_int (by rw [HX.out]), rfl⟩
  · obtain ⟨k, rfl⟩ : ∃ k : Nat, x = k := ⟨x.toNat, by omega⟩
    have t1 : decide ((k : Int) < 0) = false := by simp
    by_cases h1 : k < s.l.length
    · have HX := Lib.hid (show atL s.l k = (s.l[k] : Nat) by unfold atL; rw [if_neg (by omega), dif_pos (by simpa using h1)]; simp)
      have ck := HS.out.cell (h.dense k h1)
      generalize s.l[k] = y at HX ck
      have t2 : decide (s.l.length ≤ k) = false := by simp; omega
      have t3 : (k : Int) < (s.n : Nat) := by omega
      clear h0
      go_enter Try.func48, Try.ntmps48
      go_wp2_with fail
      refine SL.out.mono ?_; rintro e w1 ⟨rfl, rfl⟩
      go_wp2_with fail
      go_ret
      exact ⟨ret_int (by rw [HX.out]), rfl⟩
    · have HX := Lib.hid (show atL s.l k = -1 by unfold atL; rw [if_neg (by omega), dif_neg (by simpa using h1)])
      have t2 : decide (s.l.length ≤ k) = true := by simp; omega
      clear h0
      go_enter Try.func48, Try.ntmps48
      go_wp2_with fail
      refine SL.out.mono ?_; rintro e w1 ⟨rfl, rfl⟩
      go_wp2_with fail
      go_ret
      exact ⟨ret_int (by rw [HX.out]), rfl⟩
set_option maxHeartbeats 1000000 in
theorem sat_nil (x : Int) (w : World) : Calls Try.prog 48 #[.pointer none, .int .i64 x] w fun e w' => e = .returned (.int .i64 (-1)) ∧ w = w' := by
  by_cases h0 : x < 0
  · go_enter Try.func48, Try.ntmps48
    go_wp2_with fail
    go_ret
    exact ⟨rfl, rfl⟩
  · have t1 : decide (x < 0) = false := by simpa using h0
    have t2 : decide (0 ≤ x) = true := by simp; omega
    clear h0
    go_enter Try.func48, Try.ntmps48
    go_wp2_with fail
    refine (slen_nil w).mono ?_; rintro e w1 ⟨rfl, rfl⟩
    go_wp2_with fail
    go_ret
    exact ⟨rfl, rfl⟩
theorem SpAt.head2 {w : World} {g r : Nat} {s : Sp} (h : SpAt w g r s) (m : Int) : Blk (w.setCell ⟨g, 2, none⟩ (.int .i64 m)) g 72 #[.slice (some ⟨r, 0, none⟩) s.n s.n, .slice (some ⟨r, s.n, none⟩) s.n s.n, .int .i64 m] := (h.head.set 2 _).cast (by simp)
end Go.Proofs.Ytafcnehinanecaa
