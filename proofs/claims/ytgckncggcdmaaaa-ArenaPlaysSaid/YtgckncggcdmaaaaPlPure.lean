/- The arena and the document's side by side. -/
import Derived.Test.YtgckncggcdmaaaaReFree
namespace Go.Proofs.Ytgckncggcdmaaaa
open Go.RowKit Go.Maps
/-- The arena, its meter, and the document's arena. -/
structure PlS (w : World) (g c b gm h d B : Nat) (A : Ar) (m : Mt) (l : List Rg) (Lv : Value) (wr : World) : Prop where
  ar : Ars w g c b (some gm) A (some m) wr
  rf : RefAt wr B h d A l m.cells Lv
  used : m.used = A.used
  lt : g < B ∧ c < B ∧ b < B ∧ gm < B
  ne : g ≠ h ∧ c ≠ h ∧ b ≠ h ∧ gm ≠ h ∧ g ≠ d ∧ c ≠ d ∧ b ≠ d ∧ gm ≠ d
  size : B ≤ wr.heap.size
  lo : w.heap.size ≤ h ∧ w.heap.size ≤ d
  most : 0 ≤ m.cells ∧ m.cells ≤ 1048576
section
variable {w wr W' : World} {g c b gm h d B : Nat} {A A' : Ar} {m m' : Mt} {l l' : List Rg} {Lv Lv' : Value}
theorem PlS.below (q : PlS w g c b gm h d B A m l Lv wr) (k : Below wr.heap.size wr W') : PlS w g c b gm h d B A m l Lv W' := ⟨q.ar.later k, q.rf.below k, q.used, q.lt, q.ne, Nat.le_trans q.size k.size, q.lo, q.most⟩
theorem PlS.len_le (q : PlS w g c b gm h d B A m l Lv wr) : l.length ≤ 1048576 := by
  have := len_rs q.ar.ok
  have := q.ar.ok.size
  rw [← q.rf.perm.length_eq]; omega
/-- What a call on the arena leaves of the document's. -/
theorem PlS.refKept (q : PlS w g c b gm h d B A m l Lv wr) (k : Only ([g, c, b] ++ (some gm).toList) wr W') : RefAt W' B h d A l m.cells Lv := by
  have h1 := q.lt
  have h2 := q.ne
  refine q.rf.far k (fun x hx e => ?_) (by simp; omega) (by simp; omega)
  have := (q.rf.own.lt x e).1
  simp at hx
  omega
/-- What a call on the document's leaves of the arena. -/
theorem PlS.arKept (har : Ars w g c b (some gm) A (some m) wr) (q : RefAt wr B h d A' l m'.cells Lv) (hlt : g < B ∧ c < B ∧ b < B ∧ gm < B) (hne : g ≠ h ∧ c ≠ h ∧ b ≠ h ∧ gm ≠ h ∧ g ≠ d ∧ c ≠ d ∧ b ≠ d ∧ gm ≠ d) (hlo : w.heap.size ≤ h ∧ w.heap.size ≤ d) (k : Only ([h, d] ++ Lv.ownBlock.toList) wr W') (hw : w.heap.size ≤ B) : Ars w g c b (some gm) A (some m) W' := by
  have hb : ∀ x, x ∈ Lv.ownBlock.toList → B ≤ x := fun x hx => by rw [Option.mem_toList] at hx; exact (q.own.lt x hx).1
  refine har.keep k (fun x hx => ?_) ?_ ?_ ?_ ?_
  · rcases List.mem_append.1 hx with hx | hx
    · simp at hx; omega
    · have := hb x hx; omega
  · intro hx
    rcases List.mem_append.1 hx with hx | hx
    · simp at hx; omega
    · have := hb g hx; omega
  · intro hx
    rcases List.mem_append.1 hx with hx | hx
    · simp at hx; omega
    · have := hb c hx; omega
  · intro hx
    rcases List.mem_append.1 hx with hx | hx
    · simp at hx; omega
    · have := hb b hx; omega
  · rintro x e hx
    injection e with e
    subst e
    rcases List.mem_append.1 hx with hx | hx
    · simp at hx; omega
    · have := hb gm hx; omega
end
/-- The arena's answer, where the meter has what it has. -/
theorem allocF_meter {A : Ar} {m : Mt} (hu : m.used = A.used) {n : Nat} (hn : 1 ≤ n) :
    (∃ base, gapL A.rs 0 A.size n = some base ∧ ¬ m.cells - A.used < n ∧ allocF A (some m) n = ((A.alloc base n, some (m.take n).1), (((A.last + 1 : Nat) : Int), 0)) ∧ (m.take n).1.used = A.used + n ∧ (m.take n).1.cells = m.cells) ∨
    ((gapL A.rs 0 A.size n = none ∨ m.cells - A.used < n) ∧ ∃ m', allocF A (some m) n = ((A, some m'), (0, 3)) ∧ m'.used = A.used ∧ m'.cells = m.cells) := by
  unfold allocF
  rw [if_neg (by omega), Int.toNat_natCast]
  cases hg : gapL A.rs 0 A.size n with
  | none => exact .inr ⟨.inl rfl, m, rfl, hu, rfl⟩
  | some base =>
    simp only
    by_cases hq : m.cells - A.used < n
    · refine .inr ⟨.inr hq, (m.take n).1, ?_, ?_, ?_⟩
      · have : (m.take n).2 = false := by unfold Mt.take; rw [if_neg (by omega), if_pos (by omega)]
        rw [this]; rfl
      · unfold Mt.take; rw [if_neg (by omega), if_pos (by omega)]; unfold Mt.refuse; split <;> exact hu
      · unfold Mt.take; rw [if_neg (by omega), if_pos (by omega)]; unfold Mt.refuse; split <;> rfl
    · refine .inl ⟨base, rfl, hq, ?_, ?_, ?_⟩
      · have : (m.take n).2 = true := by unfold Mt.take; rw [if_neg (by omega), if_neg (by omega)]
        rw [this]; rfl
      · unfold Mt.take; rw [if_neg (by omega), if_neg (by omega)]; simp only; omega
      · unfold Mt.take; rw [if_neg (by omega), if_neg (by omega)]
theorem give_meter {A : Ar} (hA : A.ok) {m : Mt} (hu : m.used = A.used) {r : Rg} (hr : r ∈ A.rs) : (m.give r.n).1.used = ((A.free r).used : Int) ∧ (m.give r.n).1.cells = m.cells := by
  have := used_free hA hr
  unfold Mt.give
  rw [if_neg (by omega)]
  exact ⟨by simp only; omega, rfl⟩
/-- Two arenas of which all was freed are one. -/
theorem bare_eq {A X Y : Ar} (hx : Bare A X) (hy : Bare A Y) : X = Y := by
  have h1 := hx.ok.len
  have h2 := hy.ok.len
  have hs : X.size = Y.size := by rw [hx.size, hy.size]
  have hc : X.cs = Y.cs := by
    apply List.ext_getElem?
    intro i
    rcases Nat.lt_or_ge i X.size with hi | hi
    · rw [hx.ok.clean i hi (by rw [hx.rs]; exact fun _ h => nomatch h), hy.ok.clean i (by omega) (by rw [hy.rs]; exact fun _ h => nomatch h)]
    · rw [List.getElem?_eq_none (by omega), List.getElem?_eq_none (by omega)]
  cases X
  cases Y
  simp only at hs hc
  have := hx.last
  have := hy.last
  have := hx.rs
  have := hy.rs
  simp only at *
  subst hs hc
  simp_all
end Go.Proofs.Ytgckncggcdmaaaa
