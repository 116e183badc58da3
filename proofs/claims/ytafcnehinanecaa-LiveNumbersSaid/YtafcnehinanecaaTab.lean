/- Tables in memory. -/
import Derived.Test.YtafcnehinanecaaRef03
import Derived.Deep.MidRow
import Derived.Deep.WholeRow
import Derived.Deep.Light
import Derived.Handy
namespace Go.Proofs.Ytafcnehinanecaa
open Go.RowKit
theorem below_dn {B : Nat} {a w : World} (h : Below B a w) (n : Nat) : Below B a (w.drewN n) := h.trans ⟨rfl, rfl, rfl, Nat.le_refl _, fun _ _ => rfl⟩
theorem below_dr {B : Nat} {a w : World} (h : Below B a w) : Below B a w.drew := h.trans ⟨rfl, rfl, rfl, Nat.le_refl _, fun _ _ => rfl⟩
structure Tb where
  classes : Int
  start : Int
  remap : List Nat
  next : List (List Int)
  tag : List Int
/-- Rows of whole numbers that can be read. -/
def RowsR (w : World) (v : Value) (rows : List (List Int)) : Prop :=
  ∃ ao cap, v = .slice ao rows.length cap ∧ (0 < rows.length → ∃ b off, ao = some ⟨b, off, none⟩ ∧ b < w.heap.size ∧ ∀ i (h : i < rows.length), ∃ vi, w.cell? ⟨b, off + i, none⟩ = some vi ∧ IntsAt w 0 vi rows[i])
theorem RowsR.below {w w' : World} {v : Value} {rows : List (List Int)} (h : RowsR w v rows) (k : Below w.heap.size w w') : RowsR w' v rows := by
  obtain ⟨ao, cap, e, h⟩ := h
  refine ⟨ao, cap, e, fun h0 => ?_⟩
  obtain ⟨b, off, e2, hb, hc⟩ := h h0
  refine ⟨b, off, e2, Nat.lt_of_lt_of_le hb k.size, fun i hi => ?_⟩
  obtain ⟨vi, c, hv⟩ := hc i hi
  exact ⟨vi, (k.cell (p := ⟨b, _, none⟩) hb).trans c, hv.below k⟩
theorem RowsR.form {w : World} {v : Value} {rows : List (List Int)} (h : RowsR w v rows) : ∃ ao cap, v = .slice ao rows.length cap := by
  obtain ⟨ao, cap, e, _⟩ := h
  exact ⟨ao, cap, e⟩
theorem RowsR.at_ {w : World} {ao : Option Addr} {n cap : Nat} {rows : List (List Int)} (h : RowsR w (.slice ao n cap) rows) {i : Nat} (hi : i < rows.length) : ∃ b off A c, ao = some ⟨b, off, none⟩ ∧ b < w.heap.size ∧ w.cell? ⟨b, off + i, none⟩ = some (.slice A rows[i].length c) ∧ IntsAt w 0 (.slice A rows[i].length c) rows[i] := by
  obtain ⟨ao', cap', e, h⟩ := h
  cases e
  obtain ⟨b, off, e, hb, hc⟩ := h (by omega)
  obtain ⟨vi, c, hv⟩ := hc i hi
  obtain ⟨A, cc, e2, _⟩ := id hv
  subst e2
  exact ⟨b, off, A, cc, e, hb, c, hv⟩
theorem IntsAt.at_ {w : World} {base : Nat} {ao : Option Addr} {n cap : Nat} {l : List Int} (h : IntsAt w base (.slice ao n cap) l) {i : Nat} (hi : i < l.length) : ∃ b off, ao = some ⟨b, off, none⟩ ∧ b < w.heap.size ∧ w.cell? ⟨b, off + i, none⟩ = some (.int .i64 l[i]) := by
  obtain ⟨ao', cap', e, _, h⟩ := h
  cases e
  obtain ⟨b, off, e, _, hb, hc⟩ := h (by omega)
  exact ⟨b, off, e, hb, hc i hi⟩
/-- A table's cells. -/
def tbCs (c s : Int) (m : List Nat) (vn vt : Value) : Array Value := ([Value.int .i64 c, Value.int .i64 s] ++ ((m.map fun n => Value.int .u8 (n : Nat)) ++ [vn, vt])).toArray
structure TbR (w : World) (tv : Array Value) (T : Tb) : Prop where
  len : T.remap.length = 256
  byte : ∀ n ∈ T.remap, n < 256
  val : ∃ vn vt, tv = tbCs T.classes T.start T.remap vn vt ∧ RowsR w vn T.next ∧ IntsAt w 0 vt T.tag
theorem TbR.below {w w' : World} {tv : Array Value} {T : Tb} (h : TbR w tv T) (k : Below w.heap.size w w') : TbR w' tv T := by
  obtain ⟨h1, h2, vn, vt, e, h3, h4⟩ := h
  exact ⟨h1, h2, vn, vt, e, h3.below k, h4.below k⟩
theorem tbCs_0 (c s : Int) (m : List Nat) (vn vt : Value) : (tbCs c s m vn vt)[0]? = some (.int .i64 c) := rfl
theorem tbCs_1 (c s : Int) (m : List Nat) (vn vt : Value) : (tbCs c s m vn vt)[1]? = some (.int .i64 s) := rfl
theorem tbCs_byte {c s : Int} {m : List Nat} {vn vt : Value} {j : Nat} (hj : j < m.length) : (tbCs c s m vn vt)[2 + j]? = some (.int .u8 (m[j] : Nat)) := by
  unfold tbCs
  rw [List.getElem?_toArray, List.getElem?_append_right (by simp), show 2 + j - [Value.int .i64 c, .int .i64 s].length = j from by simp, List.getElem?_append_left (by rw [List.length_map]; exact hj), List.getElem?_map, List.getElem?_eq_getElem hj]; rfl
theorem tbCs_next {c s : Int} {m : List Nat} {vn vt : Value} (h : m.length = 256) : (tbCs c s m vn vt)[258]? = some vn := by
  unfold tbCs
  rw [List.getElem?_toArray, ← List.append_assoc, List.getElem?_append_right (by simp [h])]; simp [h]
theorem tbCs_tag {c s : Int} {m : List Nat} {vn vt : Value} (h : m.length = 256) : (tbCs c s m vn vt)[259]? = some vt := by
  unfold tbCs
  rw [List.getElem?_toArray, ← List.append_assoc, List.getElem?_append_right (by simp [h])]; simp [h]
theorem tbCs_size (c s : Int) (m : List Nat) (vn vt : Value) (h : m.length = 256) : (tbCs c s m vn vt).size = 260 := by unfold tbCs; simp [h]
theorem TbR.size {w : World} {tv : Array Value} {T : Tb} (h : TbR w tv T) : tv.size = 260 := by
  obtain ⟨h1, _, vn, vt, rfl, _⟩ := h
  exact tbCs_size _ _ _ _ _ h1
theorem info_tab : (Try.prog.info? 26).map (·.size) = some 260 := by kernel_rfl
/-- A table in a block of its own. -/
structure TbAt (w : World) (b : Nat) (T : Tb) : Prop where
  len : T.remap.length = 256
  byte : ∀ n ∈ T.remap, n < 256
  blk : ∃ tv, Blk w b 26 tv ∧ TbR w tv T
theorem TbAt.below {w w' : World} {b : Nat} {T : Tb} (h : TbAt w b T) (k : Below w.heap.size w w') : TbAt w' b T := by
  obtain ⟨h1, h2, tv, hb, hr⟩ := h
  exact ⟨h1, h2, tv, hb.below k, hr.below k⟩
theorem TbR.boxed {w : World} {tv : Array Value} {T : Tb} (h : TbR w tv T) : TbAt (w.alloc (.cells tv 26)) w.heap.size T :=
  ⟨h.len, h.byte, tv, Blk.made _ _ _, h.below (below_alloc (Below.refl _ _) _)⟩
theorem TbAt.lt {w : World} {b : Nat} {T : Tb} (h : TbAt w b T) : b < w.heap.size := by obtain ⟨_, _, tv, hb, _⟩ := h; exact hb.lt
/-- What a walk reads of a table: its cells, and its rows. -/
theorem TbAt.cells {w : World} {b : Nat} {T : Tb} (h : TbAt w b T) : w.cell? ⟨b, 0, none⟩ = some (.int .i64 T.classes) ∧ w.cell? ⟨b, 1, none⟩ = some (.int .i64 T.start) ∧
    (∀ j (hj : j < 256), w.cell? ⟨b, 2 + j, none⟩ = some (.int .u8 (T.remap[j]'(by rw [h.len]; exact hj) : Nat))) ∧
    ∃ an cn at_ ct, w.cell? ⟨b, 258, none⟩ = some (.slice an T.next.length cn) ∧ w.cell? ⟨b, 259, none⟩ = some (.slice at_ T.tag.length ct) ∧ RowsR w (.slice an T.next.length cn) T.next ∧ IntsAt w 0 (.slice at_ T.tag.length ct) T.tag := by
  obtain ⟨h1, h2, tv, hb, _, _, vn, vt, rfl, h3, h4⟩ := h
  obtain ⟨an, cn, e1⟩ := h3.form
  obtain ⟨at_, ct, e2, _⟩ := id h4
  subst e1 e2
  exact ⟨(hb.cell 0).trans (tbCs_0 ..), (hb.cell 1).trans (tbCs_1 ..), fun j hj => (hb.cell _).trans (tbCs_byte (by rw [h1]; exact hj)), an, cn, at_, ct, (hb.cell 258).trans (tbCs_next h1), (hb.cell 259).trans (tbCs_tag h1), h3, h4⟩
theorem TbAt.load {w : World} {b : Nat} {T : Tb} (h : TbAt w b T) : ∃ tv, TbR w tv T ∧ w.rangeAt b 0 tv.toList ∧ (Try.prog.info? 26).map (·.size) = some tv.toList.length := by
  obtain ⟨h1, h2, tv, hb, hr⟩ := h
  refine ⟨tv, hr, fun j v hv => ?_, by rw [Array.length_toList, hr.size]; exact info_tab⟩
  rw [Nat.zero_add, hb.cell]; simpa using hv
theorem IntsAt.zero_below {w w' : World} {v : Value} {l : List Int} (h : IntsAt w 0 v l) (k : Below w.heap.size w w') : IntsAt w' 0 v l := h.below k
end Go.Proofs.Ytafcnehinanecaa
