/- What is asked of parts, in the words of the sets that cut them. -/
import Derived.Test.YtonicgbejmghkaaDoorPtRef2
import Derived.Test.YtonicgbejmghkaaDoorPtCls
namespace Go.Proofs.YtonicgbejmghkaaDoor
open Go.RowKit
theorem clsSets_len (l : List (Nat → Nat)) : (clsSets l).length = nc l := by unfold clsSets nc; rw [List.length_map]
/-- A class's bytes. -/
def clSet (l : List (Nat → Nat)) (c : Int) : Nat → Nat := ofK (clsSets l) c
theorem clSet_ok {l : List (Nat → Nat)} (ho : ∀ S ∈ l, okS S) (c : Int) : okS (clSet l c) := ofK_ok (isCls_sets l ho).ok c
theorem clSet_at {l : List (Nat → Nat)} (ho : ∀ S ∈ l, okS S) {c : Nat} (hc : c < nc l) {b : Nat} (hb : b < 256) : has (clSet l c) b = decide (cl l b = c) := by
  have I := isCls_sets l ho
  have hc' : c < (clsSets l).length := by rw [clsSets_len]; exact hc
  unfold clSet ofK
  rw [if_pos ⟨by omega, by omega⟩, List.getD_eq_getElem?_getD, Int.toNat_natCast, List.getElem?_eq_getElem hc', Option.getD_some]
  exact I.at_ c hc' b hb
theorem clSet_out {l : List (Nat → Nat)} {c : Int} (h : c < 0 ∨ (nc l : Int) ≤ c) : clSet l c = zeroS := by
  unfold clSet ofK
  rw [clsSets_len, if_neg (by omega)]
/-- A class's least byte. -/
def lb (l : List (Nat → Nat)) (c : Nat) : Nat := (reps (same l) 256).getD c 0
theorem lb_fact (l : List (Nat → Nat)) {c : Nat} (hc : c < nc l) : lb l c < 256 ∧ cl l (lb l c) = c ∧ ∀ b, b < lb l c → cl l b ≠ c := by
  have hc' : c < (reps (same l) 256).length := hc
  have e : lb l c = (reps (same l) 256)[c] := by unfold lb; rw [List.getD_eq_getElem?_getD, List.getElem?_eq_getElem hc']; rfl
  have := clsR_least (eqv_same l) hc'
  rw [e]
  exact ⟨this.2.1, this.1, this.2.2⟩
theorem least_cl {l : List (Nat → Nat)} (ho : ∀ S ∈ l, okS S) {c : Nat} (hc : c < nc l) : leastS (clSet l c) = (lb l c : Nat) := by
  obtain ⟨h1, h2, h3⟩ := lb_fact l hc
  exact firstB_at (by rw [clSet_at ho hc h1, h2]; simp) (fun i hi => by rw [clSet_at ho hc (by omega)]; simpa using h3 i hi) h1
theorem least_zero : leastS zeroS = -1 := firstB_none fun i _ => has_zero i
theorem cnt_zero : cntS zeroS = 0 := by
  have : ¬ 0 < cntS zeroS := by rw [cntS_pos]; rintro ⟨b, _, h⟩; rw [has_zero] at h; cases h
  omega
theorem len_of {p : Nat} {l : List (Nat → Nat)} (w : World) (h : PtOf w p l) : Calls Tryd.prog 17 #[.pointer (some ⟨p, 0, none⟩)] w fun e w' => e = .returned (.int .i64 (nc l : Nat)) ∧ Below w.heap.size w w' := by
  have := len_c p _ _ w h
  rwa [clsSets_len] at this
theorem class_of {p : Nat} {l : List (Nat → Nat)} {b : Nat} (hb : b < 256) (w : World) (h : PtOf w p l) : Calls Tryd.prog 12 #[.pointer (some ⟨p, 0, none⟩), .int .u8 b] w fun e w' => e = .returned (.int .i64 (cl l b : Nat)) ∧ Below w.heap.size w w' := by
  have := class_c p _ _ b hb w h
  rwa [List.getD_eq_getElem?_getD, List.getElem?_map, List.getElem?_range hb, Option.map_some, Option.getD_some] at this
theorem of_of {p : Nat} {l : List (Nat → Nat)} (c : Int) (w : World) (h : PtOf w p l) : Calls Tryd.prog 14 #[.pointer (some ⟨p, 0, none⟩), .int .i64 c] w fun e w' => e = .returned (setV (clSet l c)) ∧ Below w.heap.size w w' := pof_c p _ _ c w h
theorem smp_of {p : Nat} {l : List (Nat → Nat)} (ho : ∀ S ∈ l, okS S) (c : Int) (w : World) (hT : TabAt 0 Lib.deBruijn64tab w) (h : PtOf w p l) : Calls Tryd.prog 15 #[.pointer (some ⟨p, 0, none⟩), .int .i64 c] w fun e w' => e = .returned (smp (clSet l c)) ∧ Below w.heap.size w w' :=
  sample_of (clSet_ok ho c) c w hT (of_of c w h)
theorem smp_nil (c : Int) (w : World) (hT : TabAt 0 Lib.deBruijn64tab w) : Calls Tryd.prog 15 #[.pointer none, .int .i64 c] w fun e w' => e = .returned (smp zeroS) ∧ Below w.heap.size w w' :=
  sample_of zero_ok c w hT (pof_nil c w)
theorem smp_in {l : List (Nat → Nat)} (ho : ∀ S ∈ l, okS S) {c : Nat} (hc : c < nc l) : smp (clSet l c) = .tuple #[.int .u8 (lb l c : Nat), .bool true] := by
  unfold smp
  rw [least_cl ho hc, show max ((lb l c : Nat) : Int) 0 = (lb l c : Nat) from by omega, show decide (0 ≤ ((lb l c : Nat) : Int)) = true from by simp]
theorem smp_zero : smp zeroS = .tuple #[.int .u8 0, .bool false] := by unfold smp; rw [least_zero]; rfl
/-- All bytes' classes. -/
def rmV (l : List (Nat → Nat)) : Array Value := bytesV ((List.range 256).map (cl l))
theorem remap_of {p : Nat} {l : List (Nat → Nat)} (w : World) (h : PtOf w p l) : Calls Tryd.prog 11 #[.pointer (some ⟨p, 0, none⟩)] w fun e w' => e = .returned (.agg (rmV l)) ∧ Below w.heap.size w w' := remap_c p _ _ w h
theorem rmV_size (l : List (Nat → Nat)) : (rmV l).size = 256 := by unfold rmV; rw [bytesV_size]; simp
theorem rmV_at (l : List (Nat → Nat)) {b : Nat} (hb : b < 256) : (rmV l)[b]? = some (.int .u8 (cl l b : Nat)) := by
  unfold rmV bytesV
  rw [List.getElem?_toArray, List.getElem?_map, List.getElem?_map, List.getElem?_range hb]; rfl
/-- The classes that lie in a set. -/
def clIn (l : List (Nat → Nat)) (a : Nat → Nat) : List Nat := clsIn (clsSets l) a (nc l)
theorem classes_of {p : Nat} {l : List (Nat → Nat)} (ho : ∀ S ∈ l, okS S) {a : Nat → Nat} (ha : okS a) (w : World) (h : PtOf w p l) : Calls Tryd.prog 18 #[.pointer (some ⟨p, 0, none⟩), setV a] w fun e w' => ∃ v, e = .returned v ∧ w'.ownsRow w.heap.size 3 1 v (clIn l a).length (ints (clIn l a)) ∧ Below w.heap.size w w' := by
  have := classes_c p _ (clsSets l) a (isCls_sets l ho).ok ha (by rw [clsSets_len]; exact nc_le l) w h
  rwa [clsSets_len] at this
set_option maxHeartbeats 1000000 in
set_option maxRecDepth 100000 in
theorem classes_nil (a : Nat → Nat) (w : World) : Calls Tryd.prog 18 #[.pointer none, setV a] w fun e w' => e = .returned (.slice none 0 0) ∧ Below w.heap.size w w' := by
  have LC := Lib.hid len_nil
  have B0 := Lib.hid (below_alloc (Below.refl w.heap.size w) (.cells (setCs a) 35))
  unfold setV
  unfold setCs at B0
  go_enter Tryd.func18, Tryd.ntmps18
  go_wp2_with fail
  refine (LC.out _).mono ?_; rintro e w1 ⟨rfl, k1⟩
  have B1 := Lib.hid (below_step B0.out k1)
  clear k1
  go_wp2_with fail
  go_loopw [4, 8] (fun v i wr => i = .int .i64 0 ∧ v = .slice none 0 0 ∧ Below w.heap.size w wr) (fun _ i _ => 0)
  case atStart => exact ⟨rfl, rfl, B1.out⟩
  case round =>
    obtain ⟨rfl, rfl, hw⟩ := hrel
    go_wp2_with fail
    go_returns
    exact ⟨rfl, hw⟩
/-- A row of sets that is written out. -/
theorem sets_lit (w : World) (E : List (Nat → Nat)) (h : E.length ≤ 1000) : SetsR (w.alloc (.cells (setCsL E).toArray 35)) (.slice (some ⟨w.heap.size, 0, none⟩) E.length E.length) E := by
  refine own_sets (B := 0) ?_
  have := World.ownsRow_lit (base := 0) (size := 4) (e := 35) w (setCsL E).toArray E.length (Nat.zero_le _) (by unfold maxLen; omega) (by rw [List.size_toArray, setCsL_len])
  rwa [List.toList_toArray] at this
theorem sets_nil (w : World) : SetsR w (.slice none 0 0) [] := ⟨none, 0, rfl, fun h => by cases h⟩
end Go.Proofs.YtonicgbejmghkaaDoor
