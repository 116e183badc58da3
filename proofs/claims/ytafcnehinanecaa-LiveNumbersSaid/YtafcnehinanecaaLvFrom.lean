/- Rows of rows that are made, and what live.useful keeps: plain, and in memory. -/
import Derived.Test.YtafcnehinanecaaLvMeet
namespace Go.Proofs.Ytafcnehinanecaa
open Go.RowKit
theorem Blk.at_eq {w : World} {g g' : Nat} {t : TypeId} {cs : Array Value} (h : Blk w g t cs) (e : g = g') : Blk w g' t cs := e ▸ h
theorem own_cut {w : World} {B e n c : Nat} {a : Option Addr} {xs : List Value} (h : w.ownsRow B e 1 (.slice a (n + 1) c) (n + 1) xs) : w.ownsRow B e 1 (.slice a n c) n (xs.take n) := by
  refine ⟨by rw [List.length_take, h.1]; omega, ?_⟩
  rcases h.2 with ⟨_, h0⟩ | ⟨g, cap, cur, hv, hb, hg, hnc, hcm, hcs, ht⟩
  · omega
  · injection hv with e1 e2 e3
    subst e1 e3
    refine .inr ⟨g, c, cur, rfl, hb, hg, by omega, hcm, hcs, ?_⟩
    rw [← ht, List.take_take]; congr 1; omega
theorem made_rows (k : Nat) : madeCells (Value.slice none 0 0).cells k = Array.replicate k (Value.slice none 0 0) := by
  apply Array.ext'
  unfold madeCells
  apply List.ext_getElem
  · simp [Value.cells]
  · intro i h1 h2
    simp [Value.cells, Nat.mod_one]
theorem run_make_rows (n : Nat) (h : n ≤ 65536) (w : World) : (Instr.makeSlice 23 (.int .i64 (n : Nat)) (.int .i64 (n : Nat))).run Try.prog w = .ok (.slice (some ⟨w.heap.size, 0, none⟩) n n) (w.alloc (.cells (Array.replicate n (Value.slice none 0 0)) 24)) := by
  obtain ⟨i0, hi, hz0, hz1, hz2⟩ := info_parts info_ints
  have := run_makeSlice (P := Try.prog) (w := w) 23 24 i0 (.slice none 0 0) Try.underlying23 hi hz0 .i64 .i64 (n : Int) (n : Int) (by omega) (by omega) (by rw [hz1]; omega) (by rw [hz2]; omega) (by omega)
  rw [this, hz1, show ((n : Int)).toNat = n from rfl, Nat.mul_one, made_rows]
structure FromAt (w : World) (B fb : Nat) (vs : List Value) (fr : List (List Int)) : Prop where
  hb : Blk w fb 24 vs.toArray
  lt : fb < B
  len : vs.length = fr.length
  own : ∀ i (h : i < fr.length) (h' : i < vs.length), w.ownsRow B 3 1 vs[i] fr[i].length (ints fr[i])
  ne : ∀ i j (h : i < vs.length) (h' : j < vs.length), i ≠ j → vs[i].ownBlock = none ∨ vs[i].ownBlock ≠ vs[j].ownBlock
theorem FromAt.below {w w' : World} {B fb : Nat} {vs : List Value} {fr : List (List Int)} (h : FromAt w B fb vs fr) (k : Below w.heap.size w w') : FromAt w' B fb vs fr :=
  ⟨h.hb.below k, h.lt, h.len, fun i a b => own_below (h.own i a b) k, h.ne⟩
theorem FromAt.start {w : World} {B n : Nat} (h : w.heap.size < B) : FromAt (w.alloc (.cells (Array.replicate n (Value.slice none 0 0)) 24)) B w.heap.size (List.replicate n (.slice none 0 0)) (List.replicate n []) where
  hb := (Blk.made ..).cast (by apply Array.ext'; simp)
  lt := h
  len := by simp
  own := fun i a b => by simp only [List.getElem_replicate]; exact World.ownsRow_nil _ _ _ _
  ne := fun i j a b _ => by simp only [List.getElem_replicate]; exact .inl rfl
theorem FromAt.push {w w' : World} {B fb : Nat} {vs : List Value} {fr : List (List Int)} (h : FromAt w B fb vs fr) {i : Nat} (hi : i < fr.length) (hi' : i < vs.length) {x : Int} {v' : Value}
    (o : w'.ownsRow B 3 1 v' (fr[i].length + 1) (ints fr[i] ++ [.int .i64 x])) (k : w.grownBy w' vs[i].ownBlock) (hw : v'.ownBlock = vs[i].ownBlock ∨ ∀ k, v'.ownBlock = some k → w.heap.size ≤ k) :
    FromAt (w'.setCell ⟨fb, i, none⟩ v') B fb (vs.set i v') (fr.set i (fr[i] ++ [x])) where
  hb := ((h.hb.grown k (own_ne (h.own i hi hi') h.lt)).set i v').cast (by apply Array.ext'; simp)
  lt := h.lt
  len := by simp [h.len]
  own := fun j a b => by
    have a2 : j < fr.length := by simpa using a
    have b2 : j < vs.length := by simpa using b
    by_cases e : i = j
    · subst e
      simp only [List.getElem_set_self]
      have := own_put (j := i) (u := v') o h.lt
      rw [List.length_append, ints_app]; exact this
    · simp only [List.getElem_set_ne e]
      exact own_put ((h.own j a2 b2).kept k (h.ne j i b2 hi' (fun h => e h.symm))) h.lt
  ne := fun p q a b hne => by
    have a2 : p < vs.length := by simpa using a
    have b2 : q < vs.length := by simpa using b
    have far : ∀ j (hj : j < vs.length), j ≠ i → vs[j].ownBlock = none ∨ vs[j].ownBlock ≠ v'.ownBlock := fun j hj hji => by
      have := h.ne j i hj hi' hji
      rcases this with e | e
      · exact .inl e
      · rcases hw with hw | hw
        · exact .inr (by rw [hw]; exact e)
        · cases hv : vs[j].ownBlock with
          | none => exact .inl rfl
          | some g =>
            refine .inr fun e2 => ?_
            have h1 := hw g e2.symm
            have h2 := ((h.own j (by rw [← h.len]; exact hj) hj).lt g hv).2
            omega
    by_cases e : i = p
    · subst e
      rw [List.getElem_set_self, List.getElem_set_ne (fun e => hne e)]
      have := far q b2 (fun e => hne e.symm)
      cases hv : v'.ownBlock with
      | none => exact .inl rfl
      | some g =>
        rcases this with e | e
        · rw [e]; exact .inr (fun h => nomatch h)
        · rw [hv] at e; exact .inr fun h => e h.symm
    · rw [List.getElem_set_ne e]
      by_cases e2 : i = q
      · subst e2
        rw [List.getElem_set_self]
        exact far p a2 (fun e => hne e)
      · rw [List.getElem_set_ne e2]
        exact h.ne p q a2 b2 hne
/-- What is in the rows of those from which one comes: after i states, and c cells of the i-th. -/
def PF (T : Tb) (i c : Nat) (fr : List (List Int)) : Prop := fr.length = T.next.length ∧ ∀ k, k < T.next.length → (fr.getD k []).length ≤ i * 256 + c ∧ ∀ j : Int, j ∈ fr.getD k [] ↔ (0 ≤ j ∧ j < i ∧ (k : Int) ∈ rowI T j) ∨ (j = i ∧ (k : Int) ∈ (rowI T i).take c)
theorem pf_start (T : Tb) : PF T 0 0 (List.replicate T.next.length []) := ⟨by simp, fun k hk => by
  have : (List.replicate T.next.length ([] : List Int)).getD k [] = [] := by rw [List.getD_eq_getElem?_getD, List.getElem?_replicate, if_pos hk]; rfl
  rw [this]
  refine ⟨by simp, fun j => ⟨fun h => (nomatch h), fun h => ?_⟩⟩
  rcases h with ⟨a, b, _⟩ | ⟨_, h⟩
  · omega
  · rw [List.take_zero] at h; nomatch h⟩
theorem pf_skip {T : Tb} {i c : Nat} {fr : List (List Int)} (h : PF T i c fr) (hc : c < (rowI T i).length) (hx : ¬ 0 ≤ (rowI T i)[c]) : PF T i (c + 1) fr := ⟨h.1, fun k hk => by
  obtain ⟨h1, h2⟩ := h.2 k hk
  refine ⟨by omega, fun j => ?_⟩
  rw [h2, List.take_succ_eq_append_getElem hc, List.mem_append, List.mem_singleton]
  constructor
  · rintro (h | ⟨rfl, h⟩)
    · exact .inl h
    · exact .inr ⟨rfl, .inl h⟩
  · rintro (h | ⟨rfl, h | h⟩)
    · exact .inl h
    · exact .inr ⟨rfl, h⟩
    · omega⟩
theorem pf_push {T : Tb} {i c : Nat} {fr : List (List Int)} (h : PF T i c fr) (hc : c < (rowI T i).length) {xn : Nat} (hx : (rowI T i)[c] = (xn : Int)) (hxn : xn < fr.length) : PF T i (c + 1) (fr.set xn (fr[xn] ++ [(i : Int)])) := ⟨by rw [List.length_set]; exact h.1, fun k hk => by
  obtain ⟨h1, h2⟩ := h.2 k hk
  have hkf : k < fr.length := by rw [h.1]; exact hk
  have g0 : fr.getD k [] = fr[k] := by rw [List.getD_eq_getElem?_getD, List.getElem?_eq_getElem hkf]; rfl
  have g1 : (fr.set xn (fr[xn] ++ [(i : Int)])).getD k [] = (fr.set xn (fr[xn] ++ [(i : Int)]))[k]'(by rw [List.length_set]; exact hkf) := by rw [List.getD_eq_getElem?_getD, List.getElem?_eq_getElem (by rw [List.length_set]; exact hkf)]; rfl
  rw [g0] at h1 h2
  rw [g1]
  by_cases e : xn = k
  · subst e
    rw [List.getElem_set_self]
    refine ⟨by rw [List.length_append, List.length_singleton]; omega, fun j => ?_⟩
    rw [List.mem_append, h2, List.take_succ_eq_append_getElem hc, List.mem_append, List.mem_singleton, List.mem_singleton, hx]
    constructor
    · rintro ((h | ⟨rfl, h⟩) | h)
      · exact .inl h
      · exact .inr ⟨rfl, .inl h⟩
      · exact .inr ⟨h, .inr rfl⟩
    · rintro (h | ⟨rfl, h | h⟩)
      · exact .inl (.inl h)
      · exact .inl (.inr ⟨rfl, h⟩)
      · exact .inr rfl
  · rw [List.getElem_set_ne e]
    refine ⟨by omega, fun j => ?_⟩
    rw [h2, List.take_succ_eq_append_getElem hc, List.mem_append, List.mem_singleton, hx]
    constructor
    · rintro (h | ⟨rfl, h⟩)
      · exact .inl h
      · exact .inr ⟨rfl, .inl h⟩
    · rintro (h | ⟨rfl, h | h⟩)
      · exact .inl h
      · exact .inr ⟨rfl, h⟩
      · omega⟩
theorem pf_next {T : Tb} {i c : Nat} {fr : List (List Int)} (h : PF T i c fr) (hc : (rowI T i).length = c) (hl : c ≤ 256) : PF T (i + 1) 0 fr := ⟨h.1, fun k hk => by
  obtain ⟨h1, h2⟩ := h.2 k hk
  refine ⟨Nat.le_trans h1 (by clear h2 h1 hc; rw [Nat.add_mul]; omega), fun j => ?_⟩
  rw [h2, ← hc, List.take_length, List.take_zero]
  constructor
  · rintro (⟨a, b, d⟩ | ⟨rfl, h⟩)
    · exact .inl ⟨a, by omega, d⟩
    · exact .inl ⟨by omega, by omega, h⟩
  · rintro (⟨a, b, d⟩ | ⟨_, h⟩)
    · by_cases e : j = i
      · subst e; exact .inr ⟨rfl, d⟩
      · exact .inl ⟨a, by omega, d⟩
    · nomatch h⟩
/-- At the end: just those from which one comes. -/
def Preds (T : Tb) (fr : List (List Int)) : Prop := fr.length = T.next.length ∧ ∀ k (h : k < fr.length), fr[k].length ≤ 100000 ∧ ∀ j : Int, j ∈ fr[k] ↔ 0 ≤ j ∧ j < T.next.length ∧ (k : Int) ∈ rowI T j
theorem pf_end {T : Tb} {fr : List (List Int)} (h : PF T T.next.length 0 fr) (hn : T.next.length ≤ 300) : Preds T fr := ⟨h.1, fun k hk => by
  obtain ⟨h1, h2⟩ := h.2 k (by rw [← h.1]; exact hk)
  have g0 : fr.getD k [] = fr[k] := by rw [List.getD_eq_getElem?_getD, List.getElem?_eq_getElem hk]; rfl
  rw [g0] at h1 h2
  refine ⟨by omega, fun j => ?_⟩
  rw [h2, List.take_zero]
  constructor
  · rintro (h | ⟨_, h⟩)
    · exact h
    · nomatch h
  · exact .inl⟩
def mk (m : List Bool) (j : Int) : Prop := m.getD j.toNat false = true
/-- While one goes on: state e's row is gone over up to q. -/
structure MI (T : Tb) (fr : List (List Int)) (m : List Bool) (wt : List Int) (e q : Nat) : Prop where
  sound : SoundL T m
  room : wt.length ≤ m.count true
  inn : ∀ x ∈ wt, 0 ≤ x ∧ x < T.next.length ∧ mk m x
  rest : ∀ k (h : k < fr.length), m.getD k false = true → (k : Int) ∈ wt ∨ k = e ∨ ∀ j ∈ fr[k], mk m j
  here : ∀ h : e < fr.length, ∀ j ∈ fr[e].take q, mk m j
theorem mk_set {m : List Bool} {j : Int} (i : Nat) (h : mk m j) : mk (m.set i true) j := by
  unfold mk at *
  rw [List.getD_eq_getElem?_getD] at *
  by_cases e : i = j.toNat
  · subst e
    by_cases hl : j.toNat < m.length
    · rw [List.getElem?_set_self hl]; rfl
    · rw [List.getElem?_eq_none (by omega)] at h; exact nomatch h
  · rw [List.getElem?_set_ne e]; exact h
theorem mk_here {m : List Bool} {i : Nat} (h : i < m.length) : (m.set i true).getD i false = true := by
  rw [List.getD_eq_getElem?_getD, List.getElem?_set_self h]; rfl
theorem count_put {m : List Bool} {i : Nat} (hi : i < m.length) (h : m.getD i false = false) : (m.set i true).count true = m.count true + 1 := by
  have h1 := count_set hi h
  have h2 : ∀ l : List Bool, l.count true + l.count false = l.length := fun l => by
    induction l with
    | nil => rfl
    | cons b l ih => cases b <;> simp <;> omega
  have h3 := h2 m
  have h4 := h2 (m.set i true)
  rw [List.length_set] at h4
  rw [List.count_set hi] at h4 ⊢
  have e : m[i] = false := by rw [List.getD_eq_getElem?_getD, List.getElem?_eq_getElem hi] at h; exact h
  simp [e]
theorem MI.meet {T : Tb} {fr : List (List Int)} {m : List Bool} {wt : List Int} {e q i : Nat} (h : MI T fr m wt e q) (hi : i < T.next.length) (hl : Live T i) : MI T fr (m.set i true) (meetW m wt i) e q := by
  have hlen : i < m.length := by rw [h.sound.1]; exact hi
  unfold meetW
  cases hm : m.getD i false with
  | true => rw [set_true hm]; exact h
  | false =>
    refine ⟨sound_set h.sound hl, ?_, fun x hx => ?_, fun k hk hmk => ?_, fun hh j hj => mk_set i (h.here hh j hj)⟩
    · have := h.room
      simp only [Bool.false_eq_true, if_false, List.length_append, List.length_singleton]
      rw [count_put hlen hm]; omega
    · simp only [Bool.false_eq_true, if_false] at hx
      rcases List.mem_append.1 hx with hx | hx
      · obtain ⟨a, b, c⟩ := h.inn x hx
        exact ⟨a, b, mk_set i c⟩
      · rw [List.mem_singleton] at hx; subst hx
        exact ⟨by omega, by omega, mk_here hlen⟩
    · simp only [Bool.false_eq_true, if_false]
      by_cases e : i = k
      · subst e; exact .inl (by simp)
      · have : m.getD k false = true := by
          rw [List.getD_eq_getElem?_getD] at hmk ⊢
          rwa [List.getElem?_set_ne e] at hmk
        rcases h.rest k hk this with h1 | h1 | h1
        · exact .inl (by simp [h1])
        · exact .inr (.inl h1)
        · exact .inr (.inr fun j hj => mk_set i (h1 j hj))
/-- Between: none is being gone over. -/
structure MO (T : Tb) (fr : List (List Int)) (m : List Bool) (wt : List Int) : Prop where
  sound : SoundL T m
  room : wt.length ≤ m.count true
  inn : ∀ x ∈ wt, 0 ≤ x ∧ x < T.next.length ∧ mk m x
  rest : ∀ k (h : k < fr.length), m.getD k false = true → (k : Int) ∈ wt ∨ ∀ j ∈ fr[k], mk m j
theorem MO.open {T : Tb} {fr : List (List Int)} {m : List Bool} {wt : List Int} (h : MO T fr m wt) : MI T fr m wt fr.length 0 :=
  ⟨h.sound, h.room, h.inn, fun k hk hm => (h.rest k hk hm).imp id .inr, fun h => absurd h (by omega)⟩
theorem MI.shut {T : Tb} {fr : List (List Int)} {m : List Bool} {wt : List Int} {e q : Nat} (h : MI T fr m wt e q) (hq : ∀ h : e < fr.length, fr[e].length ≤ q) : MO T fr m wt :=
  ⟨h.sound, h.room, h.inn, fun k hk hm => by
    rcases h.rest k hk hm with h1 | h1 | h1
    · exact .inl h1
    · subst h1
      have := h.here hk
      rw [List.take_of_length_le (hq hk)] at this
      exact .inr this
    · exact .inr h1⟩
theorem MO.meet {T : Tb} {fr : List (List Int)} {m : List Bool} {wt : List Int} {i : Nat} (h : MO T fr m wt) (hi : i < T.next.length) (hl : Live T i) : MO T fr (m.set i true) (meetW m wt i) :=
  (h.open.meet hi hl).shut fun h => absurd h (by omega)
theorem MO.pop {T : Tb} {fr : List (List Int)} {m : List Bool} {wt : List Int} {e : Nat} (h : MO T fr m (wt ++ [(e : Int)])) : MI T fr m wt e 0 ∧ Live T e ∧ e < T.next.length := by
  obtain ⟨a, b, c⟩ := h.inn e (by simp)
  refine ⟨⟨h.sound, by have := h.room; rw [List.length_append] at this; simp at this; omega, fun x hx => h.inn x (by simp [hx]), fun k hk hm => ?_, fun _ j hj => by rw [List.take_zero] at hj; nomatch hj⟩, h.sound.2 e c, by omega⟩
  rcases h.rest k hk hm with h1 | h1
  · rcases List.mem_append.1 h1 with h1 | h1
    · exact .inl h1
    · rw [List.mem_singleton] at h1; exact .inr (.inl (by omega))
  · exact .inr (.inr h1)
theorem MI.step {T : Tb} {fr : List (List Int)} {m : List Bool} {wt : List Int} {e q i : Nat} (P : Preds T fr) (h : MI T fr m wt e q) (he : Live T e) (hf : e < fr.length) (hq : q < fr[e].length) (hx : fr[e][q] = (i : Int)) :
    i < T.next.length ∧ MI T fr (m.set i true) (meetW m wt i) e (q + 1) := by
  have hmem : (i : Int) ∈ fr[e] := hx ▸ List.getElem_mem hq
  obtain ⟨a, b, c⟩ := ((P.2 e hf).2 i).1 hmem
  have hi : i < T.next.length := by omega
  have hl : Live T i := .step i e hi c he
  have h2 := h.meet hi hl
  refine ⟨hi, h2.sound, h2.room, h2.inn, h2.rest, fun hh j hj => ?_⟩
  rw [List.take_succ_eq_append_getElem hq, List.mem_append, List.mem_singleton] at hj
  rcases hj with hj | rfl
  · exact h2.here hh j hj
  · rw [hx]
    show (m.set i true).getD i false = true
    exact mk_here (by rw [h.sound.1]; exact hi)
theorem meetW_len {m : List Bool} {wt : List Int} {i : Nat} (hi : i < m.length) : 2 * (m.set i true).count false + (meetW m wt i).length ≤ 2 * m.count false + wt.length := by
  unfold meetW
  cases hm : m.getD i false with
  | true => rw [set_true hm]; simp
  | false => have := count_set hi hm; simp; omega
theorem MO.done {T : Tb} {fr : List (List Int)} {m : List Bool} (P : Preds T fr) (h : MO T fr m []) (ht : ∀ i, i < T.next.length → 0 ≤ tagI T i → m.getD i false = true) : m = liveL T := by
  refine live_list h.sound fun i hi hc => ?_
  unfold condB at hc
  rw [Bool.or_eq_true] at hc
  rcases hc with hc | hc
  · exact ht i hi (of_decide_eq_true hc)
  · obtain ⟨k, hk, hb⟩ := List.any_eq_true.1 hc
    unfold hasB at hb
    rw [Bool.and_eq_true, decide_eq_true_eq] at hb
    obtain ⟨k0, hkm⟩ := hb
    obtain ⟨kn, rfl⟩ := Int.eq_ofNat_of_zero_le k0
    have hkm : m.getD kn false = true := hkm
    have hkl : kn < fr.length := by
      rw [P.1, ← h.sound.1]
      apply Classical.byContradiction; intro hn
      rw [List.getD_eq_getElem?_getD, List.getElem?_eq_none (by omega)] at hkm
      exact nomatch hkm
    rcases h.rest kn hkl hkm with h1 | h1
    · nomatch h1
    · exact h1 i (((P.2 kn hkl).2 i).2 ⟨by omega, by omega, hk⟩)
end Go.Proofs.Ytafcnehinanecaa
