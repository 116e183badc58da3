/- The walks of the arena that read. -/
import Derived.Test.YtgckncggcdmaaaaArMap
import Derived.Test.YtgckncggcdmaaaaArSort
import Derived.Test.YtgckncggcdmaaaaRef03
namespace Go.Proofs.Ytgckncggcdmaaaa
open Go.RowKit
/-- The arena's meter, if there is one. -/
def mvOf : Option Nat → Value
  | none => .pointer none
  | some g => .pointer (some ⟨g, 0, none⟩)
/-- The arena A lies in block g, its cells in c, its regions in the map b. -/
structure ArAt (w : World) (g c b : Nat) (mv : Value) (A : Ar) : Prop where
  head : Blk w g 59 #[mv, .slice (some ⟨c, 0, none⟩) A.size A.size, .map (some b), .int .i64 A.last, .int .i64 ((A.size : Int) - A.used)]
  rows : Blk w c 3 (ints A.cs).toArray
  map : MapR w b A.rs
  gc : g ≠ c
  gb : g ≠ b
  cb : c ≠ b
theorem ArAt.only {S : List Nat} {w w' : World} {g c b : Nat} {mv : Value} {A : Ar} (h : ArAt w g c b mv A) (k : Only S w w') (hg : g ∉ S) (hc : c ∉ S) (hb : b ∉ S) : ArAt w' g c b mv A := ⟨h.head.only k hg, h.rows.only k hc, h.map.only k hb, h.gc, h.gb, h.cb⟩
theorem ArAt.below {w w' : World} {g c b : Nat} {mv : Value} {A : Ar} (h : ArAt w g c b mv A) (k : Below w.heap.size w w') : ArAt w' g c b mv A := h.only (Only.ofBelow [] k) (by simp) (by simp) (by simp)
theorem ArAt.drewN {w : World} {g c b : Nat} {mv : Value} {A : Ar} (h : ArAt w g c b mv A) (n : Nat) : ArAt (w.drewN n) g c b mv A := ⟨h.head, h.rows, h.map, h.gc, h.gb, h.cb⟩
def szAr (n : Int) : Nat := if n < 0 then 0 else if 1048576 < n then 1048576 else n.toNat
theorem szAr_le (n : Int) : szAr n ≤ 1048576 := by unfold szAr; (repeat' split) <;> omega
theorem arInfo : (Try.prog.info? 3).map (fun i => (i.zero, i.size, i.bytes)) = some (some (.int .i64 0), 1, 8) := by kernel_rfl
theorem arMade (k : Nat) : madeCells (Value.int .i64 0).cells k = (ints (List.replicate k 0)).toArray := by
  apply Array.ext'
  rw [show (ints (List.replicate k 0)).toArray.toList = ints (List.replicate k 0) from rfl]
  unfold madeCells ints
  rw [List.map_replicate]
  apply List.ext_getElem
  · simp
  · intro i h1 h2
    simp [Value.cells, Nat.mod_one]
theorem arMake (n : Nat) (h : n ≤ 1048576) (w : World) : (Instr.makeSlice 41 (.int .i64 (n : Int)) (.int .i64 (n : Int))).run Try.prog w = .ok (.slice (some ⟨w.heap.size, 0, none⟩) n n) (w.alloc (.cells (ints (List.replicate n 0)).toArray 3)) := by
  obtain ⟨i0, hi, hz0, hz1, hz2⟩ := info_parts arInfo
  have := run_makeSlice (P := Try.prog) (w := w) 41 3 i0 (.int .i64 0) Try.underlying41 hi hz0 .i64 .i64 (n : Int) (n : Int) (by omega) (by omega) (by rw [hz1]; omega) (by rw [hz2]; omega) (by omega)
  rw [this, hz1, show (n : Int).toNat = n from by omega, Nat.mul_one, arMade]
def ArNew (w : World) (mv : Value) (n : Nat) (e : Ending) (w' : World) : Prop := ∃ g, e = .returned (.pointer (some ⟨g, 0, none⟩)) ∧ ArAt w' g w.heap.size (w.heap.size + 1) mv (Ar.new n) ∧ w.heap.size ≤ g ∧ g < w'.heap.size ∧ Below w.heap.size w w'
theorem mkNew (w : World) (mv : Value) (n : Nat) : ArNew w mv n (.returned (.pointer (some ⟨w.heap.size + 1 + 1, 0, none⟩)))
    (((w.alloc (.cells (ints (List.replicate n 0)).toArray 3)).alloc (.map #[] 0)).alloc (.cells #[mv, .slice (some ⟨w.heap.size, 0, none⟩) n n, .map (some (w.heap.size + 1)), .int .i64 0, .int .i64 n] 59)) := by
  have h2 := MapR.made (w.alloc (.cells (ints (List.replicate n 0)).toArray 3))
  have h3 := (Blk.made w 3 (ints (List.replicate n 0)).toArray).alloc (.map #[] 0)
  have h4 := Blk.made ((w.alloc (.cells (ints (List.replicate n 0)).toArray 3)).alloc (.map #[] 0)) 59 #[mv, .slice (some ⟨w.heap.size, 0, none⟩) n n, .map (some (w.heap.size + 1)), .int .i64 0, .int .i64 n]
  simp only [World.size_alloc] at h2 h4
  refine ⟨_, rfl, ⟨?_, h3.alloc _, h2.below ((Below.refl _ _).alloc (by simp) _), by omega, by omega, by omega⟩, by omega, by simp, below_alloc (below_alloc (below_alloc (Below.refl _ _) _) _) _⟩
  unfold Ar.new Ar.used
  simpa using h4
set_option maxHeartbeats 1000000 in
set_option maxRecDepth 100000 in
theorem arnew_c (mp : Option Nat) (n : Int) (w : World) : Calls Try.prog 10 #[mvOf mp, .int .i64 n] w (ArNew w (mvOf mp) (szAr n)) := by
  have hmk := arMake (szAr n) (szAr_le n)
  have HM := Lib.hid (mkNew w (mvOf mp) (szAr n))
  have E : ((szAr n : Nat) : Int) = min (max n 0) 1048576 := by unfold szAr; (repeat' split) <;> omega
  have hmm := @run_makeMap Try.prog
  simp only [E] at hmk
  rw [E] at HM
  clear E
  cases mp with
  | none =>
    simp only [mvOf] at HM ⊢
    go_enter Try.func10, Try.ntmps10
    go_wp2
    go_ret
    exact HM.out
  | some gm =>
    simp only [mvOf] at HM ⊢
    go_enter Try.func10, Try.ntmps10
    go_wp2
    go_ret
    exact HM.out
set_option maxHeartbeats 1000000 in
theorem vals_c (mb : Option Nat) (w : World) : Calls Try.prog 41 #[.map mb] w fun e w' => e = .returned (.func (.func 47) #[] #[.pointer (some ⟨w.heap.size, 0, none⟩)]) ∧ w' = w.alloc (.cells #[.map mb] 57) :=
  callsIn_wide.1 (vals_in Fence.wide 1 trivial rfl mb w)
theorem pairw_rs {A : Ar} (h : A.ok) : (prs A.rs).Pairwise fun x y => x.1 < y.1 := by
  unfold prs
  refine List.pairwise_map.2 ?_
  refine List.Pairwise.imp_of_mem (fun {a b} ha hb hab => ?_) h.sorted
  have := (h.each a ha).1
  simp only
  omega
theorem len_rs {A : Ar} (h : A.ok) : A.rs.length ≤ A.size := by
  have h1 := h.used_le
  have : A.rs.length ≤ A.used := by
    unfold Ar.used
    have hh : ∀ l : List Rg, (∀ r ∈ l, 1 ≤ r.n) → l.length ≤ (l.map (·.n)).sum := by
      intro l
      induction l with
      | nil => intro _; simp
      | cons r t ih =>
        intro k
        have := ih (fun s hs => k s (List.mem_cons_of_mem _ hs))
        have := k r (List.mem_cons_self ..)
        rw [List.map_cons, List.sum_cons, List.length_cons]; omega
    exact hh _ fun r hr => (h.each r hr).1
  omega
set_option maxHeartbeats 1000000 in
set_option maxRecDepth 100000 in
theorem rows_c (A : Ar) (h : A.ok) (g c b : Nat) (mv : Value) (w : World) (hA : ArAt w g c b mv A) : Calls Try.prog 32 #[.pointer (some ⟨g, 0, none⟩)] w (SortedRg w (prs A.rs)) := by
  have c2 := hA.head.cell 2
  simp at c2
  obtain ⟨D, hown, hD⟩ := hA.map
  have HS := Lib.hid (fun (w1 : World) (Bm : Nat) (hBm : Bm < w1.heap.size) (hm : w1.cell? ⟨Bm, 0, none⟩ = some (.map (some b))) (ho : w1.ownsMap Try.prog 3 rgR b A.rs.length D) =>
    sortedRg_c Bm b A.rs.length D (prs A.rs) w1 hBm hm ho (by rw [hD.size]; have := len_rs h; have := h.size; omega) (by rw [prs_len]; have := len_rs h; have := h.size; omega) (fun xs hx => MapR.perm ho hD h.ids hx) (pairw_rs h))
  have HO := Lib.hid hown
  clear hown hA h hD
  go_enter Try.func32, Try.ntmps32
  go_wp2_with fail
  refine (vals_c _ _).mono ?_
  rintro e w1 ⟨rfl, rfl⟩
  go_wp2_with fail
  refine (HS.out _ w.heap.size (by simp) (by exact (Blk.made w 57 #[.map (some b)]).cell 0) (HO.out.alloc _)).mono ?_
  rintro e w2 ⟨v, rfl, h1, h2⟩
  have H1 := Lib.hid h1
  have H2 := Lib.hid h2
  clear h1 h2
  go_wp2_with fail
  go_ret
  exact ⟨v, rfl, own_mono H1.out (by simp), below_step (below_alloc (Below.refl _ _) _) H2.out⟩
end Go.Proofs.Ytgckncggcdmaaaa
