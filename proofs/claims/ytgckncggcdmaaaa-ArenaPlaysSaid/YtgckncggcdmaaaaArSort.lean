/- Regions sorted by where they lie. -/
import Derived.Test.YtgckncggcdmaaaaArSeq
import Derived.Test.YtgckncggcdmaaaaTail
import Derived.Test.YtgckncggcdmaaaaShelf
import Derived.Shelf.SlSortCmp.WholeK
import Derived.Shelf.SlSortCmp.NoneTotal
namespace Go.Proofs.Ytgckncggcdmaaaa
open Go.RowKit Go.Maps Go.Sort Go.Shelf
def enc2 (x : Int × Int) : List Value := [.int .i64 x.1, .int .i64 x.2]
def cfRg (x y : Int × Int) : Int := Lib.compareInt x.1 y.1
theorem ltRg (x y : Int × Int) : ltOf cfRg x y = decide (x.1 < y.1) := by
  unfold ltOf cfRg Lib.compareInt
  by_cases h1 : x.1 < y.1
  · simp [h1]
  · by_cases h2 : y.1 < x.1 <;> simp [h1, h2]
theorem swoRg : SWO (ltOf cfRg) where
  irrefl x := by rw [ltRg]; simp
  trans x y z h1 h2 := by rw [ltRg] at *; simp at *; omega
  ntrans x y z h1 h2 := by rw [ltRg] at *; simp at *; omega
/-- There is one sorted row, where all lie apart. -/
theorem sorted_one {l0 l1 : List (Int × Int)} {d' : Array (Int × Int)} (hp : PermIn 0 l0.toArray.size l0.toArray d') (hs : SortedIn (ltOf cfRg) 0 l0.toArray.size d') (h1 : l1.Perm l0) (h2 : l1.Pairwise fun x y => x.1 < y.1) : d' = l1.toArray := by
  obtain ⟨hsz, _, hperm⟩ := hp
  have e1 : d'.extract 0 l0.toArray.size = d' := by rw [← hsz]; exact Array.extract_size
  rw [e1, Array.extract_size] at hperm
  have hd : d'.toList.Pairwise fun x y => x.1 ≤ y.1 := by
    rw [List.pairwise_iff_getElem]
    intro i j hi hj hij
    have hi' : i < d'.size := by simpa using hi
    have hj' : j < d'.size := by simpa using hj
    have := hs i j (Nat.zero_le _) hij (by omega)
    rw [getElem!_pos d' j hj', getElem!_pos d' i hi', ltRg] at this
    simpa using this
  have hpp : d'.toList.Perm l1 := (by simpa using hperm : d'.toList.Perm l0).trans h1.symm
  have hnd : ∀ x y, x ∈ l1 → y ∈ l1 → x.1 = y.1 → x = y := by
    intro x y hx hy e
    obtain ⟨i, hi, rfl⟩ := List.getElem_of_mem hx
    obtain ⟨j, hj, rfl⟩ := List.getElem_of_mem hy
    rw [List.pairwise_iff_getElem] at h2
    rcases Nat.lt_trichotomy i j with h | h | h
    · have := h2 i j hi hj h; omega
    · subst h; rfl
    · have := h2 j i hj hi h; omega
  have : d'.toList = l1 := by
    refine List.Perm.eq_of_pairwise (le := fun x y => x.1 ≤ y.1) ?_ hd (h2.imp (by intro a b h; omega)) hpp
    intro a b ha hb h3 h4
    exact hnd a b (hpp.mem_iff.1 ha) hb (by omega)
  rw [← this]
theorem flat_enc (l : List (Int × Int)) : flatK enc2 2 l.toArray = (rgCs l).toArray := by
  refine ext_get! (by simp [rgCs_len]) fun t ht => ?_
  have ht' : t < l.length * 2 := by simpa using ht
  rw [get_flatK _ _ _ t (by simpa using ht')]
  have hd : t / 2 < l.length := by omega
  have key : ∀ (l : List (Int × Int)) (t : Nat) (h : t / 2 < l.length), (rgCs l)[t]? = (enc2 (l[t / 2]'h))[t % 2]? := by
    intro l
    induction l with
    | nil => intro t h; simp at h
    | cons x r ih =>
      intro t h
      match t, h with
      | 0, _ => rfl
      | 1, _ => rfl
      | t + 2, h =>
        have e1 : (t + 2) / 2 = t / 2 + 1 := by omega
        have e2 : (t + 2) % 2 = t % 2 := by omega
        have h' : t / 2 < r.length := by simp only [List.length_cons] at h; omega
        have := ih t h'
        simp only [e1, e2, List.getElem_cons_succ]
        rw [← this]
        rfl
  have k := key l t hd
  have hx : (enc2 (l[t / 2]'hd))[t % 2]? = some ((enc2 (l[t / 2]'hd))[t % 2]'(by simp [enc2]; omega)) := List.getElem?_eq_getElem _
  rw [hx] at k
  have e3 : l.toArray[t / 2]! = l[t / 2] := by rw [getElem!_pos _ _ (by simpa using hd)]; simp
  rw [e3]
  have hr : t < (rgCs l).toArray.size := by simpa [rgCs_len] using ht'
  rw [getElem!_pos _ t hr, getElem!_pos _ _ (by simp [enc2]; omega)]
  have : (rgCs l)[t]? = some ((rgCs l).toArray[t]) := by simp
  rw [this] at k
  injection k with k
  exact k.symm
/-- Behind the sort the same slice has the sorted row. -/
theorem sorted_own {w : World} {base g cap n : Nat} {os : Array Obj} {cur : Array Value} {l0 l1 : List (Int × Int)} (hl : l1.length = l0.length) (hbase : base ≤ g) (hb : w.heap[g]? = some (.cells cur 62 (0, 0)))
    (h1 : l0.length ≤ cap) (h2 : cap ≤ maxLen) (h3 : cur.size = cap * 2) :
    (sortWorldK enc2 2 w g 0 n l1.toArray os).ownsRow base 62 2 (.slice (some ⟨g, 0, none⟩) l0.length cap) l1.length (rgCs l1) ∧ Below base w (sortWorldK enc2 2 w g 0 n l1.toArray os) := by
  have hg : g < w.heap.size := (Array.getElem?_eq_some_iff.1 hb).1
  unfold sortWorldK putRowK
  rw [flat_enc]
  have hh : (grow (putRow id (Sort.ahead w n) g 0 (rgCs l1).toArray) os).heap[g]? = some (.cells (putCells id 0 (rgCs l1).toArray cur) 62 (0, 0)) := by
    rw [heap_grow_old _ _ (by simpa using hg)]
    simp [putRow, mapBlock, Sort.ahead, Array.getElem?_modify, hb, onCells]
  refine ⟨⟨rgCs_len l1, .inr ⟨g, cap, _, by rw [hl], hbase, hh, by omega, h2, by simp [putCells, h3], ?_⟩⟩, rfl, rfl, rfl, by simp, fun k hk => ?_⟩
  · have hle : (rgCs l1).length ≤ cur.size := by rw [rgCs_len, h3]; omega
    rw [show l1.length * 2 = (rgCs l1).length from (rgCs_len l1).symm]
    apply List.ext_getElem?
    intro j
    by_cases hj : j < (rgCs l1).length
    · rw [List.getElem?_take_of_lt hj, Array.getElem?_toList]
      simp [putCells, hj, show j < cur.size by omega]
    · rw [List.getElem?_take_eq_none (by omega), List.getElem?_eq_none (by omega)]
  · rw [heap_grow_old _ _ (by simp; omega)]
    have : g ≠ k := by omega
    simp [putRow, mapBlock, Sort.ahead, Array.getElem?_modify, this]
set_option maxHeartbeats 1000000 in
theorem rgClo (x y : Int × Int) (W : World) : Calls Try.prog 42 #[.agg #[.int .i64 x.1, .int .i64 x.2], .agg #[.int .i64 y.1, .int .i64 y.2]] W fun e w' => e = .returned (.int .i64 (cfRg x y)) ∧ ∃ q os', w' = grow (W.drewN q) os' := by
  have hcon := fun W' => AnyG.cmp_Compare_int Try.cmpInt x.1 y.1 W'
  change ∀ W', Calls Try.prog 43 _ _ _ at hcon
  unfold cfRg
  generalize Lib.compareInt x.1 y.1 = r at hcon ⊢
  go_enter Try.func42, Try.ntmps42
  go_wp2_with (go_at_call 43; refine (hcon _).mono ?_; rintro e w' ⟨rfl, rfl⟩)
  go_ret
  exact ⟨rfl, 0, _, by rw [alloc_eq_grow, alloc_eq_grow, grow_grow]; rfl⟩
theorem rgLays (blk off size : Nat) (w : World) : CmpLays Try.prog 42 #[] enc2 2 cfRg blk off size w := fun _ _ _ _ x y => rgClo x y _
/-- The regions of a map, sorted. -/
def SortedRg (w : World) (l : List (Int × Int)) (e : Ending) (w' : World) : Prop := ∃ v, e = .returned v ∧ w'.ownsRow w.heap.size 62 2 v l.length (rgCs l) ∧ Below w.heap.size w w'
set_option maxRecDepth 100000 in
set_option maxHeartbeats 2000000 in
theorem sortedRg_c (Bm b nn : Nat) (D0 : DataW Unit) (l : List (Int × Int)) (w : World) (hBm : Bm < w.heap.size) (hm : w.cell? ⟨Bm, 0, none⟩ = some (.map (some b))) (hown : w.ownsMap Try.prog 3 rgR b nn D0) (hs : Maps.size D0 ≤ 2000000) (hll : l.length ≤ 2000000)
    (hl : ∀ xs, RgOf D0 xs → l.Perm xs) (hp : l.Pairwise fun x y => x.1 < y.1) :
    Calls Try.prog 40 #[.func (.func 47) #[] #[.pointer (some ⟨Bm, 0, none⟩)], .func (.func 42) #[] #[]] w (SortedRg w l) := by
  have eg : ∀ args w, (callFunc 47 args).run Try.prog w = .ok (.enter 47 args) w := enters_of Try.func47 (by kernel_rfl) rfl
  have ec : ∀ args w, (callFunc 42 args).run Try.prog w = .ok (.enter 42 args) w := enters_of Try.func42 (by kernel_rfl) rfl
  have hseq := vals_gives Fence.wide 1 trivial rfl (Nat.le_refl _) Bm b nn D0 w hBm hm hown
  have hc := callsIn_wide.1 (collect_in Fence.wide 3 trivial trivial rfl (Nat.le_refl _) 47 #[.pointer (some ⟨Bm, 0, none⟩)] trivial eg (RgOf D0) (Maps.size D0) (by unfold maxLen; omega) (by omega) w hseq)
  have HL := Lib.hid hl
  have HP := Lib.hid hp
  clear hseq hm hown hs hl hp hBm
  go_enter Try.func40, Try.ntmps40
  go_wp2_with fail
  refine hc.mono ?_
  rintro e W ⟨v, ss, rfl, hS, hrow, hnil, hb⟩
  have hper := HL.out ss hS
  rcases hrow.2 with ⟨rfl, hz⟩ | ⟨gb, cap, cur, rfl, hbase, hgb, r1, r2, r3, r4⟩
  · have hss : ss = [] := List.eq_nil_of_length_eq_zero hz
    subst hss
    have hl0 : l = [] := hper.eq_nil
    subst hl0
    have hn := AnyF.slices_SortFunc_none { Try.sortRg with } none 0 (.func (.func 42) #[] #[]) W
    change Calls Try.prog 46 _ _ _ at hn
    go_wp2_with fail
    refine hn.mono ?_
    rintro e w' ⟨rfl, rfl⟩
    go_wp2
    go_ret
    exact ⟨_, rfl, by simpa using hrow, hb⟩
  · have hgl : gb < W.heap.size := (Array.getElem?_eq_some_iff.1 hgb).1
    have hH : HoldsK enc2 2 W gb 0 ss.toArray := by
      unfold HoldsK
      rw [flat_enc]
      intro j hj
      have hj' : j < (rgCs ss).length := by simpa using hj
      refine ⟨?_, by simp [World.frozen?, hgb]⟩
      have h1 : (cur.toList.take (ss.length * 2))[j]? = (rgCs ss)[j]? := by rw [r4]
      rw [List.getElem?_take_of_lt (by rw [rgCs_len] at hj'; exact hj')] at h1
      simp only [World.cell?, hgb, Nat.zero_add]
      simp only [Option.isSome_none, Bool.false_eq_true, if_false]
      rw [← Array.getElem?_toList, h1, List.getElem?_eq_getElem hj', getElem!_pos _ j hj]
      simp
    have hsz : ss.toArray.size < 4611686018427387904 := by have := hper.length_eq; simp; omega
    have hcon := AnyQ.slices_SortFunc Try.sortRg 2 Try.isAgg62 Try.sizeOf62 enc2 (fun _ => rfl) (fun x v hv => by simp [enc2] at hv; rcases hv with rfl | rfl <;> rfl) cfRg swoRg 42 #[] gb 0 cap ss.toArray W ec (rgLays gb 0 _ W) hH hgl hsz
    change Calls Try.prog 46 _ _ _ at hcon
    have HH := Lib.hid hgb
    have H1 := Lib.hid r1; have H2 := Lib.hid r2; have H3 := Lib.hid r3
    have HB := Lib.hid hb; have HBS := Lib.hid hbase
    simp only [List.size_toArray] at hcon
    clear hH hrow hnil r1 r2 r3 r4 hgb hsz hb hbase hc
    go_wp2_with fail
    refine hcon.mono ?_
    rintro e w' ⟨rfl, d', n, os, hpm, hso, rfl⟩
    obtain rfl := sorted_one hpm hso hper HP.out
    have hlen : l.length = ss.length := hper.length_eq
    obtain ⟨ho, hB⟩ := sorted_own (n := n) (os := os) hlen HBS.out HH.out H1.out H2.out H3.out
    go_wp2
    go_ret
    exact ⟨_, rfl, ho, HB.out.trans hB⟩
end Go.Proofs.Ytgckncggcdmaaaa
