/- Lists of lines. -/
import Derived.Test.YtokfcndhmbkelaaRuBase
import Derived.Test.YtokfcndhmbkelaaExt
namespace Go.Proofs.Ytokfcndhmbkelaa
open Go.RowKit
structure Ln where
  name : List UInt8
  text : List UInt8
  at_ : Int
def Ln.cs (x : Ln) : List Value := [str x.name, str x.text, .int .i64 x.at_]
def lnCells (l : List Ln) : List Value := l.flatMap Ln.cs
theorem lnCells_len : ∀ l, (lnCells l).length = l.length * 3
  | [] => rfl
  | x :: l => by
    have := lnCells_len l
    unfold lnCells at *
    rw [List.flatMap_cons, List.length_append, this]
    simp [Ln.cs]; omega
theorem lnCells_snoc (l : List Ln) (x : Ln) : lnCells (l ++ [x]) = lnCells l ++ x.cs := by unfold lnCells; rw [List.flatMap_append, List.flatMap_cons, List.flatMap_nil, List.append_nil]
theorem lnCells_at : ∀ (l : List Ln) (i : Nat) (hi : i < l.length), (lnCells l)[i * 3]? = some (str l[i].name) ∧ (lnCells l)[i * 3 + 1]? = some (str l[i].text) ∧ (lnCells l)[i * 3 + 2]? = some (.int .i64 l[i].at_)
  | x :: l, 0, _ => ⟨rfl, rfl, rfl⟩
  | x :: l, i + 1, hi => by
    have h := lnCells_at l i (by simpa using hi)
    have e : lnCells (x :: l) = x.cs ++ lnCells l := by unfold lnCells; rw [List.flatMap_cons]
    rw [e]
    have hl : x.cs.length = 3 := rfl
    rw [List.getElem?_append_right (by omega), List.getElem?_append_right (by omega), List.getElem?_append_right (by omega), hl, show (i + 1) * 3 - 3 = i * 3 from by omega, show (i + 1) * 3 + 1 - 3 = i * 3 + 1 from by omega, show (i + 1) * 3 + 2 - 3 = i * 3 + 2 from by omega]
    exact h
/-- A slice of lines, its cells in a block from base on. -/
def LinesAt (w : World) (base : Nat) (v : Value) (l : List Ln) : Prop :=
  ∃ A cap, v = .slice A l.length cap ∧ ((A = none → cap = 0) ∧ l.length ≤ cap) ∧ (0 < l.length → ∃ b o, A = some ⟨b, o, none⟩ ∧ base ≤ b ∧ b < w.heap.size ∧ ∀ i (h : i < l.length), w.cell? ⟨b, o + i * 3, none⟩ = some (str l[i].name) ∧ w.cell? ⟨b, o + i * 3 + 1, none⟩ = some (str l[i].text) ∧ w.cell? ⟨b, o + i * 3 + 2, none⟩ = some (.int .i64 l[i].at_))
theorem LinesAt.nil (w : World) (base : Nat) : LinesAt w base (.slice none 0 0) [] := ⟨none, 0, rfl, ⟨fun _ => rfl, Nat.le_refl _⟩, fun h => absurd h (by simp)⟩
theorem LinesAt.moved {w w' : World} {base : Nat} {v : Value} {l : List Ln} (h : LinesAt w base v l) (hs : w.heap.size ≤ w'.heap.size) (k : ∀ b, base ≤ b → b < w.heap.size → w'.heap[b]? = w.heap[b]?) : LinesAt w' base v l := by
  obtain ⟨A, cap, e, hn, hc⟩ := h
  refine ⟨A, cap, e, hn, fun h0 => ?_⟩
  obtain ⟨b, o, e, hb, hlt, hc⟩ := hc h0
  refine ⟨b, o, e, hb, by omega, fun i hi => ?_⟩
  obtain ⟨c0, c1, c2⟩ := hc i hi
  have hk := k b hb hlt
  exact ⟨(World.cell?_of_block (a := ⟨b, o + i * 3, none⟩) (w := w) hk).trans c0, (World.cell?_of_block (a := ⟨b, o + i * 3 + 1, none⟩) (w := w) hk).trans c1, (World.cell?_of_block (a := ⟨b, o + i * 3 + 2, none⟩) (w := w) hk).trans c2⟩
theorem LinesAt.below {w w' : World} {base : Nat} {v : Value} {l : List Ln} (h : LinesAt w base v l) (k : Below w.heap.size w w') : LinesAt w' base v l := h.moved k.size (fun b _ hb => k.block b hb)
theorem LinesAt.mono {w : World} {base base' : Nat} {v : Value} {l : List Ln} (h : LinesAt w base v l) (hb : base' ≤ base) : LinesAt w base' v l := by
  obtain ⟨A, cap, e, hn, hc⟩ := h
  exact ⟨A, cap, e, hn, fun h0 => by obtain ⟨b, o, e, h1, h2⟩ := hc h0; exact ⟨b, o, e, Nat.le_trans hb h1, h2⟩⟩
theorem LinesAt.own {w : World} {base : Nat} {e : TypeId} {v : Value} {l : List Ln} (h : w.ownsRow base e 3 v l.length (lnCells l)) : LinesAt w base v l := by
  obtain ⟨ao, cap, rfl, hn, hv⟩ : ∃ ao cap, v = .slice ao l.length cap ∧ ((ao = none → cap = 0) ∧ l.length ≤ cap) ∧ (0 < l.length → ∃ g, ao = some ⟨g, 0, none⟩ ∧ base ≤ g ∧ g < w.heap.size) := by
    rcases h.2 with ⟨hv, h0⟩ | ⟨g, cap, cur, hv, hg, hh, hnc, _⟩
    · exact ⟨none, 0, by rw [hv, h0], ⟨fun _ => rfl, by omega⟩, fun h => absurd h (by omega)⟩
    · exact ⟨_, cap, hv, ⟨(fun e => by cases e), hnc⟩, fun _ => ⟨g, rfl, hg, (Array.getElem?_eq_some_iff.1 hh).1⟩⟩
  refine ⟨ao, cap, rfl, hn, fun h0 => ?_⟩
  obtain ⟨g, rfl, hg, hl⟩ := hv h0
  refine ⟨g, 0, rfl, hg, hl, fun i hi => ?_⟩
  have h3 := lnCells_at l i hi
  rw [Nat.zero_add, h.cellAt _ (by omega), h.cellAt _ (by omega), h.cellAt _ (by omega)]
  exact h3
def hasName (l : List Ln) (name : List UInt8) : Bool := l.any fun x => x.name == name
theorem str_beq (a b : List UInt8) : ((⟨a.toArray⟩ : ByteArray).toList == (⟨b.toArray⟩ : ByteArray).toList) = (a == b) := by rw [str_eq_nil, str_eq_nil]
set_option maxHeartbeats 1000000 in
theorem find_c (l : List Ln) (hl : l.length ≤ 1000000) (name : List UInt8) (base : Nat) (v : Value) (w : World) (h : LinesAt w base v l) : Calls Try.prog 21 #[v, str name] w fun e w' => e = .returned (.bool (hasName l name)) ∧ w = w' := by
  obtain ⟨A, cap, rfl, _, hc⟩ := h
  have HC := Lib.hid hc
  clear hc
  unfold str
  go_enter Try.func21, Try.ntmps21
  go_wp2_with fail
  go_loop [5] (fun i => ∃ k : Nat, k ≤ l.length ∧ i = .int .i64 k ∧ hasName (l.take k) name = false) (fun i => l.length - (intOf i).toNat)
  case atStart => exact ⟨0, by omega, rfl, rfl⟩
  case round =>
    obtain ⟨k, hk, rfl, hno⟩ := hrel
    have HN := Lib.hid hno
    clear hno
    by_cases hlt : k < l.length
    · obtain ⟨b, o, rfl, _, hb, hcell⟩ := HC.out (by omega)
      have c0 := (hcell k hlt).1
      unfold str at c0
      have SB := str_beq l[k].name name
      have T := Lib.hid (show hasName (l.take (k + 1)) name = (hasName (l.take k) name || (l[k].name == name)) by unfold hasName; rw [List.take_succ_eq_append_getElem hlt, List.any_append]; simp)
      have E := Lib.hid (show (l[k].name == name) = true → hasName l name = true from fun hx => List.any_eq_true.2 ⟨l[k], List.getElem_mem hlt, hx⟩)
      generalize (l[k].name == name) = p at T E SB
      generalize (⟨l[k].name.toArray⟩ : ByteArray) = s1 at c0 SB
      generalize (⟨name.toArray⟩ : ByteArray) = s2 at SB ⊢
      have t0 : decide (k < l.length) = true := by simp; omega
      have t2 : (k : Int) < (l.length : Nat) := by omega
      clear hcell
      cases p with
      | true =>
        have HX := Lib.hid (E.out rfl)
        go_wp2_with fail
        go_ret
        exact ⟨ret_bool (by rw [HX.out]), rfl⟩
      | false =>
        have HX := Lib.hid (show hasName (l.take (k + 1)) name = false by rw [T.out, HN.out]; rfl)
        go_wp2_with fail
        go_round
        case rel => exact ⟨k + 1, by omega, by go_num, HX.out⟩
        case measure => simp [intOf]; omega
    · have e : k = l.length := by omega
      subst e
      have t0 : ¬ l.length < l.length := by omega
      go_wp2_with fail
      go_ret
      exact ⟨ret_bool (by have := HN.out; rw [List.take_length] at this; rw [this]), rfl⟩
set_option maxHeartbeats 1000000 in
theorem there1_c (x : Ln) (name : List UInt8) (b : Nat) (w : World) (h : w.cell? ⟨b, 0, none⟩ = some (str name)) : Calls Try.prog 30 #[.agg #[str x.name, str x.text, .int .i64 x.at_], .pointer (some ⟨b, 0, none⟩)] w fun e w' => e = .returned (.bool (x.name == name)) ∧ Below w.heap.size w w' := by
  have SB := str_beq x.name name
  have hb : b < w.heap.size := by
    rcases Nat.lt_or_ge b w.heap.size with g | g
    · exact g
    · unfold World.cell? at h; rw [Array.getElem?_eq_none g] at h; cases h
  unfold str at *
  generalize (x.name == name) = p at SB
  generalize (⟨x.name.toArray⟩ : ByteArray) = s1 at *
  generalize (⟨name.toArray⟩ : ByteArray) = s2 at *
  have c1 : (w.alloc (.cells #[.string s1, .string ⟨x.text.toArray⟩, .int .i64 x.at_] 31)).cell? ⟨b, 0, none⟩ = some (.string s2) := ((Below.refl w.heap.size w).alloc (Nat.le_refl _) _).cell (p := ⟨b, 0, none⟩) hb |>.trans h
  go_enter Try.func30, Try.ntmps30
  go_wp2
  go_ret
  exact ⟨rfl, (Below.refl _ _).alloc (Nat.le_refl _) _⟩
def idxName (l : List Ln) (name : List UInt8) : Int := if hasName l name then 0 else -1
set_option maxHeartbeats 1000000 in
set_option maxRecDepth 100000 in
theorem idxf_c (l : List Ln) (hl : l.length ≤ 1000000) (name : List UInt8) (b base : Nat) (v : Value) (w : World) (h : LinesAt w base v l) (hb : w.cell? ⟨b, 0, none⟩ = some (str name)) (hbl : b < w.heap.size) : Calls Try.prog 34 #[v, .func (.func 30) #[] #[.pointer (some ⟨b, 0, none⟩)]] w fun e w' => ∃ i : Int, e = .returned (.int .i64 i) ∧ decide (0 ≤ i) = hasName l name ∧ Below w.heap.size w w' := by
  have H := Lib.hid h
  obtain ⟨A, cap, rfl, _, hc⟩ := h
  have HB := Lib.hid hb
  have HL := Lib.hid hbl
  clear hc hb hbl
  go_enter Try.func34, Try.ntmps34
  go_wp2_with fail
  go_loopw [8] (fun i wr => ∃ k : Nat, k ≤ l.length ∧ i = .int .i64 k ∧ hasName (l.take k) name = false ∧ Below w.heap.size w wr) (fun i _ => l.length - (intOf i).toNat)
  case atStart => exact ⟨0, by omega, rfl, rfl, Below.refl _ _⟩
  case round =>
    obtain ⟨k, hk, rfl, hno, hw⟩ := hrel
    have HN := Lib.hid hno
    have HW := Lib.hid hw
    clear hno hw
    by_cases hlt : k < l.length
    · obtain ⟨A', cap', e', _, hc'⟩ := H.out.below HW.out
      injection e' with e1 _ e2
      subst e1
      subst e2
      obtain ⟨g, o, rfl, _, hg, hcell⟩ := hc' (by omega)
      obtain ⟨c0, c1, c2⟩ := hcell k hlt
      have T := Lib.hid (show hasName (l.take (k + 1)) name = (hasName (l.take k) name || (l[k].name == name)) by unfold hasName; rw [List.take_succ_eq_append_getElem hlt, List.any_append]; simp)
      have E := Lib.hid (show (l[k].name == name) = true → hasName l name = true from fun hx => List.any_eq_true.2 ⟨l[k], List.getElem_mem hlt, hx⟩)
      have CC := fun (w1 : World) (h : w1.cell? ⟨b, 0, none⟩ = some (str name)) => there1_c l[k] name b w1 h
      generalize (l[k].name == name) = p at T E CC
      generalize l[k] = x at *
      unfold str at c0 c1 CC
      have CC' := Lib.hid CC
      have t0 : decide (k < l.length) = true := by simp; omega
      have t2 : (k : Int) < (l.length : Nat) := by omega
      clear hcell CC hc'
      go_wp2_with fail
      refine (CC'.out _ ((HW.out.cell (p := ⟨b, 0, none⟩) HL.out).trans HB.out)).mono ?_; rintro e w1 ⟨rfl, k1⟩
      have HW1 := Lib.hid (below_step HW.out k1)
      clear k1 c0 c1 c2
      cases p with
      | true =>
        have HX := Lib.hid (E.out rfl)
        go_wp2_with fail
        go_ret
        exact ⟨k, rfl, by rw [HX.out]; simp, HW1.out⟩
      | false =>
        have HX := Lib.hid (show hasName (l.take (k + 1)) name = false by rw [T.out, HN.out]; rfl)
        go_wp2_with fail
        go_roundw
        case rel => exact ⟨k + 1, by omega, by go_num, HX.out, HW1.out⟩
        case measure => simp [intOf]; omega
    · have e : k = l.length := by omega
      subst e
      have t0 : ¬ l.length < l.length := by omega
      go_wp2_with fail
      go_ret
      exact ⟨-1, rfl, by have := HN.out; rw [List.take_length] at this; rw [this]; rfl, HW.out⟩
set_option maxHeartbeats 1000000 in
theorem cont_c (l : List Ln) (hl : l.length ≤ 1000000) (name : List UInt8) (b base : Nat) (v : Value) (w : World) (h : LinesAt w base v l) (hb : w.cell? ⟨b, 0, none⟩ = some (str name)) (hbl : b < w.heap.size) : Calls Try.prog 29 #[v, .func (.func 30) #[] #[.pointer (some ⟨b, 0, none⟩)]] w fun e w' => e = .returned (.bool (hasName l name)) ∧ Below w.heap.size w w' := by
  have IC := Lib.hid (idxf_c l hl name b base v w h hb hbl)
  obtain ⟨A, cap, rfl, _⟩ := h
  clear hb
  go_enter Try.func29, Try.ntmps29
  go_wp2_with fail
  refine IC.out.mono ?_; rintro e w1 ⟨i, rfl, h1, h2⟩
  have H1 := Lib.hid h1
  have H2 := Lib.hid h2
  clear h1 h2
  go_wp2_with fail
  go_ret
  exact ⟨ret_bool (by rw [← H1.out]), H2.out⟩
set_option maxHeartbeats 1000000 in
theorem there_c (l : List Ln) (hl : l.length ≤ 1000000) (name : List UInt8) (base : Nat) (v : Value) (w : World) (h : LinesAt w base v l) : Calls Try.prog 18 #[v, str name] w fun e w' => e = .returned (.bool (hasName l name)) ∧ Below w.heap.size w w' := by
  have IC := fun (b : Nat) (w1 : World) (h : LinesAt w1 base v l) (hb : w1.cell? ⟨b, 0, none⟩ = some (str name)) (hbl : b < w1.heap.size) => cont_c l hl name b base v w1 h hb hbl
  have H := Lib.hid (h.below (Below.alloc (Below.refl _ _) (Nat.le_refl _) (.cells #[str name] 9)))
  have BX := Lib.hid (show (w.alloc (.cells #[str name] 9)).cell? ⟨w.heap.size, 0, none⟩ = some (str name) from (Blk.made w 9 #[str name]).cell 0)
  have BL := Lib.hid (Blk.made w 9 #[str name]).lt
  have CC := Lib.hid (IC w.heap.size _ H.out BX.out BL.out)
  obtain ⟨A, cap, rfl, _⟩ := h
  unfold str at *
  clear IC
  go_enter Try.func18, Try.ntmps18
  go_wp2_with fail
  refine CC.out.mono ?_; rintro e w1 ⟨rfl, h2⟩
  have H2 := Lib.hid (below_step (below_alloc (Below.refl _ _) _) h2)
  clear h2
  go_wp2_with fail
  go_ret
  exact ⟨rfl, H2.out⟩
end Go.Proofs.Ytokfcndhmbkelaa
