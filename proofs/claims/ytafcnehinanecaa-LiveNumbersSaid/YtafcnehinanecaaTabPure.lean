/- Tables: what is met, what is useful, other numbers, what is run through: plain. -/
import Derived.Test.YtafcnehinanecaaTabRight
namespace Go.Proofs.Ytafcnehinanecaa
open Go.RowKit
def rowI (T : Tb) (s : Int) : List Int := T.next.getD s.toNat []
def tagI (T : Tb) (s : Int) : Int := T.tag.getD s.toNat 0
def addIf (may : Int → Bool) (out : List Int) (k : Int) : List Int := if (decide (0 ≤ k) && may k) && !(out.any (· == k)) then out ++ [k] else out
def addRow (may : Int → Bool) (out row : List Int) : List Int := row.foldl (addIf may) out
def metN (T : Tb) (may : Int → Bool) : Nat → List Int
  | 0 => if decide (0 ≤ T.start) && may T.start then [T.start] else []
  | k + 1 => if h : k < (metN T may k).length then addRow may (metN T may k) (rowI T ((metN T may k)[k])) else metN T may k
def order (T : Tb) (may : Int → Bool) : List Int := metN T may T.next.length
theorem addIf_prefix (may : Int → Bool) (out : List Int) (k : Int) : out <+: addIf may out k := by
  unfold addIf; split
  · exact List.prefix_append ..
  · exact List.prefix_refl _
theorem addRow_prefix (may : Int → Bool) : ∀ (row out : List Int), out <+: addRow may out row
  | [], _ => List.prefix_refl _
  | k :: row, out => (addIf_prefix may out k).trans (addRow_prefix may row (addIf may out k))
theorem metN_prefix (T : Tb) (may : Int → Bool) (k : Nat) : metN T may k <+: metN T may (k + 1) := by
  rw [metN]; split
  · exact addRow_prefix ..
  · exact List.prefix_refl _
theorem metN_done {T : Tb} {may : Int → Bool} {k : Nat} (h : (metN T may k).length ≤ k) : ∀ j, metN T may (k + j) = metN T may k
  | 0 => rfl
  | j + 1 => by
    rw [show k + (j + 1) = (k + j) + 1 from rfl, metN, dif_neg (by rw [metN_done h j]; omega), metN_done h j]
theorem metN_step {T : Tb} {may : Int → Bool} {k : Nat} (h : k < (metN T may k).length) : metN T may (k + 1) = addRow may (metN T may k) (rowI T (metN T may k)[k]) := by rw [metN, dif_pos h]
/-- What can be said of each list on the way. -/
def Meets (n : Nat) (may : Int → Bool) (l : List Int) : Prop := l.Nodup ∧ ∀ x ∈ l, 0 ≤ x ∧ x < n ∧ may x = true
theorem Meets.addIf {n : Nat} {may : Int → Bool} {l : List Int} (h : Meets n may l) {k : Int} (hk : k < n) : Meets n may (addIf may l k) := by
  unfold Go.Proofs.Ytafcnehinanecaa.addIf; split
  · rename_i hc
    simp only [Bool.and_eq_true, decide_eq_true_eq, Bool.not_eq_true'] at hc
    obtain ⟨⟨h0, hm⟩, hn⟩ := hc
    refine ⟨?_, fun x hx => ?_⟩
    · rw [List.nodup_append]
      refine ⟨h.1, by simp, fun a ha b hb => ?_⟩
      rw [List.mem_singleton] at hb; subst hb
      intro e; subst e
      rw [List.any_eq_false] at hn
      exact hn _ ha (by simp)
    · rcases List.mem_append.1 hx with hx | hx
      · exact h.2 x hx
      · rw [List.mem_singleton] at hx; subst hx; exact ⟨h0, hk, hm⟩
  · exact h
theorem Meets.addRow {n : Nat} {may : Int → Bool} : ∀ {row l : List Int}, Meets n may l → (∀ k ∈ row, k < (n : Int)) → Meets n may (addRow may l row)
  | [], _, h, _ => h
  | k :: row, l, h, hr => Meets.addRow (row := row) (h.addIf (hr k (by simp))) fun x hx => hr x (by simp [hx])
theorem RightP.row {T : Tb} (_ : RightP T) {s : Int} (h0 : 0 ≤ s) (h1 : s < T.next.length) : rowI T s = T.next[s.toNat]'(by omega) := by
  unfold rowI; rw [List.getD_eq_getElem?_getD, List.getElem?_eq_getElem (by omega)]; rfl
theorem RightP.rowLen {T : Tb} (p : RightP T) {s : Int} (h0 : 0 ≤ s) (h1 : s < T.next.length) : ((rowI T s).length : Int) = T.classes := by rw [p.row h0 h1]; exact p.rows _ _
theorem RightP.rowGoes {T : Tb} (p : RightP T) {s : Int} (h0 : 0 ≤ s) (h1 : s < T.next.length) {k : Int} (hk : k ∈ rowI T s) : -1 ≤ k ∧ k < T.next.length := by
  rw [p.row h0 h1] at hk
  obtain ⟨j, hj, rfl⟩ := List.getElem_of_mem hk
  exact p.goes _ _ j hj
theorem RightP.meets {T : Tb} (p : RightP T) (may : Int → Bool) : ∀ k, Meets T.next.length may (metN T may k)
  | 0 => by
    rw [metN]; split
    · rename_i hc
      simp only [Bool.and_eq_true, decide_eq_true_eq] at hc
      refine ⟨by simp, fun x hx => ?_⟩
      rw [List.mem_singleton] at hx; subst hx
      exact ⟨hc.1, p.s2, hc.2⟩
    · exact ⟨by simp, fun x hx => nomatch hx⟩
  | k + 1 => by
    rw [metN]; split
    · rename_i hlt
      have ih := p.meets may k
      have hs := ih.2 _ (List.getElem_mem hlt)
      exact ih.addRow fun x hx => (p.rowGoes hs.1 hs.2.1 hx).2
    · exact p.meets may k
theorem nodup_small {n : Nat} {l : List Int} (hn : l.Nodup) (h : ∀ x ∈ l, 0 ≤ x ∧ x < (n : Int)) : l.length ≤ n := by
  have h1 : (l.map Int.toNat).Nodup := by
    rw [List.nodup_iff_pairwise_ne, List.pairwise_map]
    refine (List.Pairwise.and_mem.1 hn).imp fun {a b} hab => ?_
    have := h a hab.1; have := h b hab.2.1; have := hab.2.2; omega
  have h2 : (l.map Int.toNat) ⊆ List.range n := fun x hx => by
    obtain ⟨y, hy, rfl⟩ := List.mem_map.1 hx
    have := h y hy; simp; omega
  have := h1.length_le_of_subset h2
  simpa using this
theorem Meets.small {n : Nat} {may : Int → Bool} {l : List Int} (h : Meets n may l) : l.length ≤ n := nodup_small h.1 fun x hx => ⟨(h.2 x hx).1, (h.2 x hx).2.1⟩
theorem RightP.orderEnd {T : Tb} (p : RightP T) {may : Int → Bool} {k : Nat} (h : k = (metN T may k).length) : metN T may k = order T may := by
  have hle := (p.meets may k).small
  have := metN_done (T := T) (may := may) (k := k) (by omega) (T.next.length - k)
  rw [show k + (T.next.length - k) = T.next.length by omega] at this
  exact this.symm
theorem metN_grow {T : Tb} {may : Int → Bool} {k : Nat} (h : k < (metN T may k).length) : k + 1 ≤ (metN T may (k + 1)).length := by
  have := (metN_prefix T may k).length_le; omega
theorem addRow_take {may : Int → Bool} {out row : List Int} {c : Nat} (h : c < row.length) : addRow may out (row.take (c + 1)) = addIf may (addRow may out (row.take c)) row[c] := by
  unfold addRow; rw [List.take_succ_eq_append_getElem h, List.foldl_append]; rfl
theorem addRow_all (may : Int → Bool) (out row : List Int) : addRow may out (row.take row.length) = addRow may out row := by rw [List.take_length]
theorem addIf_yes {may : Int → Bool} {out : List Int} {k : Int} (h0 : 0 ≤ k) (h1 : may k = true) (h2 : out.any (· == k) = false) : addIf may out k = out ++ [k] := by unfold addIf; rw [h1, h2, decide_eq_true h0]; rfl
theorem addIf_low {may : Int → Bool} {out : List Int} {k : Int} (h0 : ¬ 0 ≤ k) : addIf may out k = out := by unfold addIf; rw [decide_eq_false h0]; rfl
theorem addIf_in {may : Int → Bool} {out : List Int} {k : Int} (h2 : out.any (· == k) = true) : addIf may out k = out := by unfold addIf; rw [h2]; simp
theorem addIf_out {may : Int → Bool} {out : List Int} {k : Int} (h2 : may k = false) : addIf may out k = out := by unfold addIf; rw [h2]; simp
/-- States from which one that accepts can be come to. -/
inductive Live (T : Tb) : Nat → Prop
  | acc (i : Nat) : i < T.next.length → 0 ≤ tagI T i → Live T i
  | step (i k : Nat) : i < T.next.length → (k : Int) ∈ rowI T i → Live T k → Live T i
open Classical in
noncomputable def liveB (T : Tb) (i : Nat) : Bool := decide (Live T i)
theorem liveB_iff (T : Tb) (i : Nat) : liveB T i = true ↔ Live T i := by unfold liveB; simp
attribute [irreducible] liveB
noncomputable def usefulL (T : Tb) : List Int := ((List.range T.next.length).filter (liveB T)).map Int.ofNat
theorem usefulL_any {T : Tb} {k : Int} (h0 : 0 ≤ k) (h1 : k < T.next.length) : (usefulL T).any (· == k) = liveB T k.toNat := by
  rw [Bool.eq_iff_iff, List.any_eq_true]
  unfold usefulL
  constructor
  · rintro ⟨x, hx, e⟩
    obtain ⟨i, hi, rfl⟩ := List.mem_map.1 hx
    have := (List.mem_filter.1 hi).2
    rw [← eq_of_beq e]; exact this
  · intro h
    exact ⟨k, List.mem_map.2 ⟨k.toNat, List.mem_filter.2 ⟨by rw [List.mem_range]; omega, h⟩, Int.toNat_of_nonneg h0⟩, by simp⟩
def place (l : List Int) (x : Int) : Int := if x ∈ l then (l.idxOf x : Nat) else -1
def numberT (T : Tb) (l : List Int) : Tb := ⟨T.classes, place l T.start, T.remap, l.map fun k => (rowI T k).map (place l), l.map (tagI T)⟩
noncomputable def trimT (T : Tb) : Tb := numberT T (order T fun k => liveB T k.toNat)
def stepT (T : Tb) (a : Int) (b : UInt8) : Int := if 0 ≤ a then (rowI T a).getD (T.remap.getD b.toNat 0) 0 else a
def runT (T : Tb) (s : List UInt8) : Int := s.foldl (stepT T) T.start
def longN (T : Tb) (s : List UInt8) (f : Nat) : Nat → Int × Int
  | 0 => (-1, -1)
  | k + 1 => let a := runT T ((s.drop f).take (k + 1)); if 0 ≤ a ∧ 0 ≤ tagI T a then (tagI T a, (f + (k + 1) : Nat)) else longN T s f k
def longest (T : Tb) (s : List UInt8) (f : Nat) : Int × Int := longN T s f (s.length - f)
theorem RightP.byteRow {T : Tb} (p : RightP T) (h256 : T.remap.length = 256) {a : Int} (h0 : 0 ≤ a) (h1 : a < T.next.length) (b : UInt8) : T.remap.getD b.toNat 0 < (rowI T a).length := by
  have hb : b.toNat < T.remap.length := by rw [h256]; exact b.toNat_lt
  have h2 := p.bs b.toNat hb
  have h3 := p.rowLen h0 h1
  rw [List.getD_eq_getElem?_getD, List.getElem?_eq_getElem hb]
  show T.remap[b.toNat] < _
  omega
theorem RightP.stepIn {T : Tb} (p : RightP T) (h256 : T.remap.length = 256) {a : Int} (h : -1 ≤ a ∧ a < T.next.length) (b : UInt8) : -1 ≤ stepT T a b ∧ stepT T a b < T.next.length := by
  unfold stepT; split
  · rename_i h0
    have hl := p.byteRow h256 h0 h.2 b
    refine p.rowGoes h0 h.2 ?_
    rw [List.getD_eq_getElem?_getD, List.getElem?_eq_getElem hl]
    exact List.getElem_mem hl
  · exact h
theorem runT_snoc (T : Tb) (s : List UInt8) (b : UInt8) : runT T (s ++ [b]) = stepT T (runT T s) b := by unfold runT; rw [List.foldl_append]; rfl
theorem RightP.runIn {T : Tb} (p : RightP T) (h256 : T.remap.length = 256) (s : List UInt8) : -1 ≤ runT T s ∧ runT T s < T.next.length := by
  have : ∀ (s : List UInt8) (a : Int), (-1 ≤ a ∧ a < T.next.length) → -1 ≤ s.foldl (stepT T) a ∧ s.foldl (stepT T) a < T.next.length := by
    intro s
    induction s with
    | nil => exact fun a h => h
    | cons b s ih => exact fun a h => ih _ (p.stepIn h256 h b)
  exact this s T.start ⟨p.s1, p.s2⟩
theorem run_neg (T : Tb) : ∀ (s : List UInt8) (a : Int), a < 0 → s.foldl (stepT T) a = a
  | [], _, _ => rfl
  | b :: s, a, h => by
    rw [List.foldl_cons, show stepT T a b = a from by unfold stepT; rw [if_neg (by omega)]]
    exact run_neg T s a h
theorem runT_stop {T : Tb} {s : List UInt8} {k : Nat} (h : runT T (s.take k) < 0) : runT T s = runT T (s.take k) := by
  conv => lhs; rw [← List.take_append_drop k s]
  unfold runT at h ⊢
  rw [List.foldl_append, run_neg T _ _ h]
theorem runT_take {T : Tb} {s : List UInt8} {k : Nat} (hk : k < s.length) : runT T (s.take (k + 1)) = stepT T (runT T (s.take k)) s[k] := by
  rw [List.take_succ_eq_append_getElem hk, runT_snoc]
theorem place_none {l : List Int} {x : Int} (h : x ∉ l) : place l x = -1 := by unfold place; rw [if_neg h]
theorem place_hit : ∀ {l : List Int} {x : Int} {k : Nat}, l[k]? = some x → (∀ j, j < k → l[j]? ≠ some x) → place l x = k
  | [], x, k, h, _ => by simp at h
  | y :: l, x, k, h, hn => by
    unfold place
    cases k with
    | zero =>
      simp at h; subst h
      rw [if_pos (by simp)]; simp
    | succ k =>
      have hy : y ≠ x := fun e => hn 0 (by omega) (by simp [e])
      have hk : l[k]? = some x := by simpa using h
      have ih := place_hit hk (fun j hj => by have := hn (j + 1) (by omega); simpa using this)
      have hm : x ∈ l := List.mem_of_getElem? hk
      unfold place at ih
      rw [if_pos hm] at ih
      rw [if_pos (List.mem_cons_of_mem _ hm), List.idxOf_cons, show (y == x) = false from by simpa using hy]
      simp only [cond_false]
      omega
end Go.Proofs.Ytafcnehinanecaa
