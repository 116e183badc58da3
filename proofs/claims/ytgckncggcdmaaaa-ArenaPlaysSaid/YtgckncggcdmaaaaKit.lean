/- Small laws for the rows of this seat: what was read before the call reads the same behind it; structs of whole numbers. -/
import Derived.ProofKit
import Derived.OpenShut
import Derived.ShutString
import Derived.ChangeOld
import Derived.Below
import Derived.SizedLaws
import Derived.Carry
import Derived.Lib.SmallJoins
import Derived.Deep.Slices
import Derived.Deep.Fields
namespace Go.Proofs.Ytgckncggcdmaaaa
open Go.ChangeShapes Go.WideShapes Go.ChangeAt Go.RowKit Go.Deep
theorem below_step {w W w2 : World} (h : Below w.heap.size w W) (k : Below W.heap.size W w2) : Below w.heap.size w w2 := h.trans (k.mono h.size)
theorem below_alloc {w W : World} (h : Below w.heap.size w W) (o : Obj) : Below w.heap.size w (W.alloc o) := h.alloc h.size o
theorem below_put {w W : World} (h : Below w.heap.size w W) {p : Addr} (hp : w.heap.size ≤ p.block) (u : Value) : Below w.heap.size w (W.setCell p u) := h.setCell hp u
theorem below_draws {w W : World} (h : Below w.heap.size w W) (n : Nat) : Below w.heap.size w (W.drewN n) := ⟨h.os, h.tape, h.output, h.size, h.block⟩
theorem bcell {W w1 : World} (hb : Below W.heap.size W w1) : (∀ b o, b < W.heap.size → w1.cell? ⟨b, o, none⟩ = W.cell? ⟨b, o, none⟩) ∧ (∀ b o, b < W.heap.size → w1.frozen? ⟨b, o, none⟩ = W.frozen? ⟨b, o, none⟩) :=
  ⟨fun b o h => hb.cell (p := ⟨b, o, none⟩) h, fun b o h => hb.frozen (p := ⟨b, o, none⟩) h⟩
/-- Only the blocks of S, and new ones, have turned. -/
structure Only (S : List Nat) (w w' : World) : Prop where
  os : w'.os = w.os
  tape : w'.tape = w.tape
  output : w'.output = w.output
  size : w.heap.size ≤ w'.heap.size
  block : ∀ k, k < w.heap.size → k ∉ S → w'.heap[k]? = w.heap[k]?
theorem Only.refl (S : List Nat) (w : World) : Only S w w := ⟨rfl, rfl, rfl, Nat.le_refl _, fun _ _ _ => rfl⟩
theorem Only.trans {S : List Nat} {a b c : World} (h : Only S a b) (k : Only S b c) : Only S a c :=
  ⟨k.os.trans h.os, k.tape.trans h.tape, k.output.trans h.output, Nat.le_trans h.size k.size, fun i hi hn => (k.block i (Nat.lt_of_lt_of_le hi h.size) hn).trans (h.block i hi hn)⟩
theorem Only.mono {S T : List Nat} {w w' : World} (h : Only S w w') (hs : ∀ x ∈ S, x ∈ T) : Only T w w' := ⟨h.os, h.tape, h.output, h.size, fun k hk hn => h.block k hk (fun hm => hn (hs k hm))⟩
theorem Only.drew {S : List Nat} {a w : World} (h : Only S a w) : Only S a w.drew := ⟨h.os, h.tape, h.output, h.size, h.block⟩
theorem Only.drewN {S : List Nat} {a w : World} (h : Only S a w) (n : Nat) : Only S a (w.drewN n) := ⟨h.os, h.tape, h.output, h.size, h.block⟩
theorem Only.alloc {S : List Nat} {a w : World} (h : Only S a w) (o : Obj) : Only S a (w.alloc o) :=
  ⟨h.os, h.tape, h.output, Nat.le_trans h.size (by simp), fun k hk hn => (Below.heap_alloc w o k (Nat.lt_of_lt_of_le hk h.size)).trans (h.block k hk hn)⟩
theorem Only.set {S : List Nat} {a w : World} (h : Only S a w) {p : Addr} (hp : p.block ∈ S ∨ a.heap.size ≤ p.block) (u : Value) : Only S a (w.setCell p u) :=
  ⟨h.os, h.tape, h.output, Nat.le_trans h.size (by simp [World.setCell]), fun k hk hn => (Below.heap_setCell w p u k (fun e => hp.elim (fun hp => hn (e ▸ hp)) (fun hp => by omega))).trans (h.block k hk hn)⟩
theorem Only.ofBelow {a w : World} (S : List Nat) (h : Below a.heap.size a w) : Only S a w := ⟨h.os, h.tape, h.output, h.size, fun k hk _ => h.block k hk⟩
/-- A part of the call: what it may turn lies among S, or was made by the call itself. -/
theorem Only.step {S T : List Nat} {a w w' : World} (h : Only S a w) (k : Only T w w') (hT : ∀ x ∈ T, x ∈ S ∨ a.heap.size ≤ x) : Only S a w' :=
  ⟨k.os.trans h.os, k.tape.trans h.tape, k.output.trans h.output, Nat.le_trans h.size k.size, fun i hi hn => (k.block i (Nat.lt_of_lt_of_le hi h.size) (fun hm => (hT i hm).elim hn (fun g => by omega))).trans (h.block i hi hn)⟩
theorem Only.below {S : List Nat} {a w : World} (h : Only S a w) (hS : ∀ x ∈ S, a.heap.size ≤ x) : Below a.heap.size a w := ⟨h.os, h.tape, h.output, h.size, fun k hk => h.block k hk (fun hm => by have := hS k hm; omega)⟩
theorem Only.cell {S : List Nat} {a w : World} (h : Only S a w) {p : Addr} (hp : p.block < a.heap.size) (hn : p.block ∉ S) : w.cell? p = a.cell? p := World.cell?_of_block (w := a) (h.block p.block hp hn)
theorem Only.free {S : List Nat} {a w : World} (h : Only S a w) {p : Addr} (hp : p.block < a.heap.size) (hn : p.block ∉ S) : w.frozen? p = a.frozen? p := World.frozen?_of_block (w := a) (h.block p.block hp hn)
/-- Block g is just the cells cs of element type t, none of them frozen. -/
def Blk (w : World) (g : Nat) (t : TypeId) (cs : Array Value) : Prop := w.heap[g]? = some (.cells cs t (0, 0))
theorem Blk.lt {w : World} {g : Nat} {t : TypeId} {cs : Array Value} (h : Blk w g t cs) : g < w.heap.size := by
  rcases Nat.lt_or_ge g w.heap.size with h' | h'
  · exact h'
  · unfold Blk at h; rw [Array.getElem?_eq_none h'] at h; cases h
theorem Blk.cell {w : World} {g : Nat} {t : TypeId} {cs : Array Value} (h : Blk w g t cs) (i : Nat) : w.cell? ⟨g, i, none⟩ = cs[i]? := by
  unfold Blk at h; simp [World.cell?, h]
theorem Blk.free {w : World} {g : Nat} {t : TypeId} {cs : Array Value} (h : Blk w g t cs) (i : Nat) : w.frozen? ⟨g, i, none⟩ = false := by
  unfold Blk at h; simp [World.frozen?, h]
theorem Blk.drew {w : World} {g : Nat} {t : TypeId} {cs : Array Value} (h : Blk w g t cs) : Blk w.drew g t cs := h
theorem Blk.drewN {w : World} {g : Nat} {t : TypeId} {cs : Array Value} (h : Blk w g t cs) (n : Nat) : Blk (w.drewN n) g t cs := h
theorem Blk.alloc {w : World} {g : Nat} {t : TypeId} {cs : Array Value} (h : Blk w g t cs) (o : Obj) : Blk (w.alloc o) g t cs := (Below.heap_alloc w o g h.lt).trans h
theorem Blk.made (w : World) (t : TypeId) (cs : Array Value) : Blk (w.alloc (.cells cs t)) w.heap.size t cs := by
  show (w.heap.push _)[w.heap.size]? = _
  rw [Array.getElem?_push_size]
theorem Blk.set {w : World} {g : Nat} {t : TypeId} {cs : Array Value} (h : Blk w g t cs) (i : Nat) (u : Value) : Blk (w.setCell ⟨g, i, none⟩ u) g t (cs.setIfInBounds i u) := by
  have hl := h.lt
  have h' : w.heap[g] = .cells cs t (0, 0) := by unfold Blk at h; simpa [Array.getElem?_eq_getElem hl] using h
  show (w.heap.modify g _)[g]? = _
  rw [Array.getElem?_eq_getElem (by simpa using hl), Array.getElem_modify_self, h']
  rfl
theorem Blk.far {w : World} {g : Nat} {t : TypeId} {cs : Array Value} (h : Blk w g t cs) {p : Addr} (hp : g ≠ p.block) (u : Value) : Blk (w.setCell p u) g t cs := (Below.heap_setCell w p u g hp).trans h
theorem Blk.only {S : List Nat} {w w' : World} {g : Nat} {t : TypeId} {cs : Array Value} (h : Blk w g t cs) (k : Only S w w') (hg : g ∉ S) : Blk w' g t cs := (k.block g h.lt hg).trans h
theorem Blk.below {w w' : World} {g : Nat} {t : TypeId} {cs : Array Value} (h : Blk w g t cs) (k : Below w.heap.size w w') : Blk w' g t cs := (k.block g h.lt).trans h
theorem Blk.cast {w : World} {g : Nat} {t : TypeId} {cs cs' : Array Value} (h : Blk w g t cs) (e : cs = cs') : Blk w g t cs' := e ▸ h
theorem own_below {w w' : World} {base n size : Nat} {e : TypeId} {v : Value} {xs : List Value} (h : w.ownsRow base e size v n xs) (k : Below w.heap.size w w') : w'.ownsRow base e size v n xs :=
  h.kept (row := none) ⟨k.os, k.tape, k.output, k.size, fun i hi _ => k.block i hi⟩ (by cases v.ownBlock <;> simp)
theorem own_only {S : List Nat} {w w' : World} {base n size : Nat} {e : TypeId} {v : Value} {xs : List Value} (h : w.ownsRow base e size v n xs) (k : Only S w w') (hS : ∀ x ∈ S, x < base) : w'.ownsRow base e size v n xs := by
  obtain ⟨h1, h2⟩ := h
  refine ⟨h1, ?_⟩
  rcases h2 with h2 | ⟨g, cap, cur, hv, hg, hh, r⟩
  · exact .inl h2
  · refine .inr ⟨g, cap, cur, hv, hg, ?_, r⟩
    rw [k.block g (Array.getElem?_eq_some_iff.1 hh).1 (fun hm => by have := hS g hm; omega)]
    exact hh
theorem Blk.grown {w w' : World} {g : Nat} {t : TypeId} {cs : Array Value} {row : Option Nat} (h : Blk w g t cs) (k : w.grownBy w' row) (hg : some g ≠ row) : Blk w' g t cs := (k.block g h.lt hg).trans h
theorem Below.ofGrown {B : Nat} {a w w' : World} {base n size : Nat} {e : TypeId} {v : Value} {xs : List Value} (h : Below B a w) (hown : w.ownsRow base e size v n xs) (k : w.grownBy w' v.ownBlock) (hB : B ≤ base) (hs : B ≤ w.heap.size) : Below B a w' :=
  h.grown k hs (fun g hg => by have := (hown.lt g hg).1; omega)
theorem own_mono {w : World} {base base' n size : Nat} {e : TypeId} {v : Value} {xs : List Value} (h : w.ownsRow base e size v n xs) (hb : base' ≤ base) : w.ownsRow base' e size v n xs :=
  ⟨h.1, h.2.imp id fun ⟨g, cap, cur, a, b, r⟩ => ⟨g, cap, cur, a, Nat.le_trans hb b, r⟩⟩
theorem own_ne {w : World} {base n size g : Nat} {e : TypeId} {v : Value} {xs : List Value} (h : w.ownsRow base e size v n xs) (hg : g < base) : some g ≠ v.ownBlock := fun e => by have := (h.lt g e.symm).1; omega
/-- What is of P has not turned. -/
structure Keep (P : Nat → Prop) (w w' : World) : Prop where
  os : w'.os = w.os
  tape : w'.tape = w.tape
  output : w'.output = w.output
  size : w.heap.size ≤ w'.heap.size
  block : ∀ k, k < w.heap.size → P k → w'.heap[k]? = w.heap[k]?
theorem Keep.refl (P : Nat → Prop) (w : World) : Keep P w w := ⟨rfl, rfl, rfl, Nat.le_refl _, fun _ _ _ => rfl⟩
theorem Keep.trans {P : Nat → Prop} {a b c : World} (h : Keep P a b) (k : Keep P b c) : Keep P a c :=
  ⟨k.os.trans h.os, k.tape.trans h.tape, k.output.trans h.output, Nat.le_trans h.size k.size, fun i hi hp => (k.block i (Nat.lt_of_lt_of_le hi h.size) hp).trans (h.block i hi hp)⟩
theorem Keep.mono {P Q : Nat → Prop} {w w' : World} (h : Keep P w w') (hq : ∀ k, k < w.heap.size → Q k → P k) : Keep Q w w' := ⟨h.os, h.tape, h.output, h.size, fun k hk hp => h.block k hk (hq k hk hp)⟩
theorem Keep.ofBelow {P : Nat → Prop} {w w' : World} (h : Below w.heap.size w w') : Keep P w w' := ⟨h.os, h.tape, h.output, h.size, fun k hk _ => h.block k hk⟩
theorem Keep.below {P : Nat → Prop} {w w' : World} (h : Keep P w w') {B : Nat} (hB : B ≤ w.heap.size) (hP : ∀ k, k < B → P k) : Below B w w' := ⟨h.os, h.tape, h.output, h.size, fun k hk => h.block k (Nat.lt_of_lt_of_le hk hB) (hP k hk)⟩
theorem Keep.drewN {P : Nat → Prop} {a w : World} (h : Keep P a w) (n : Nat) : Keep P a (w.drewN n) := ⟨h.os, h.tape, h.output, h.size, h.block⟩
theorem Keep.alloc {P : Nat → Prop} {a w : World} (h : Keep P a w) (o : Obj) : Keep P a (w.alloc o) :=
  ⟨h.os, h.tape, h.output, Nat.le_trans h.size (by simp), fun k hk hp => (Below.heap_alloc w o k (Nat.lt_of_lt_of_le hk h.size)).trans (h.block k hk hp)⟩
theorem Keep.set {P : Nat → Prop} {a w : World} (h : Keep P a w) {p : Addr} (hp : ¬ P p.block) (u : Value) : Keep P a (w.setCell p u) :=
  ⟨h.os, h.tape, h.output, Nat.le_trans h.size (by simp [World.setCell]), fun k hk hq => (Below.heap_setCell w p u k (fun e => hp (e ▸ hq))).trans (h.block k hk hq)⟩
theorem Keep.grown {P : Nat → Prop} {a w w' : World} {row : Option Nat} (h : Keep P a w) (k : w.grownBy w' row) (hr : ∀ g, row = some g → ¬ P g) : Keep P a w' :=
  ⟨k.os.trans h.os, k.tape.trans h.tape, k.output.trans h.output, Nat.le_trans h.size k.size, fun i hi hp => (k.block i (Nat.lt_of_lt_of_le hi h.size) (fun e => hr i e.symm hp)).trans (h.block i hi hp)⟩
theorem Blk.keep {P : Nat → Prop} {w w' : World} {g : Nat} {t : TypeId} {cs : Array Value} (h : Blk w g t cs) (k : Keep P w w') (hg : P g) : Blk w' g t cs := (k.block g h.lt hg).trans h
theorem own_keep {P : Nat → Prop} {w w' : World} {base n size : Nat} {e : TypeId} {v : Value} {xs : List Value} (h : w.ownsRow base e size v n xs) (k : Keep P w w') (hP : ∀ g, v.ownBlock = some g → P g) : w'.ownsRow base e size v n xs := by
  obtain ⟨h1, h2⟩ := h
  refine ⟨h1, ?_⟩
  rcases h2 with h2 | ⟨g, cap, cur, hv, hg, hh, r⟩
  · exact .inl h2
  · refine .inr ⟨g, cap, cur, hv, hg, ?_, r⟩
    rw [k.block g (Array.getElem?_eq_some_iff.1 hh).1 (hP g (by rw [hv]; rfl))]
    exact hh
/-- The form of an owned row's value, and its cells. -/
theorem own_form {w : World} {base n size : Nat} {e : TypeId} {v : Value} {xs : List Value} (h : w.ownsRow base e size v n xs) : ∃ ao cap, v = .slice ao n cap ∧ (0 < n → ∃ g, ao = some ⟨g, 0, none⟩ ∧ base ≤ g ∧ g < w.heap.size) := by
  rcases h.2 with ⟨hv, h0⟩ | ⟨g, cap, cur, hv, hg, hh, _⟩
  · subst h0; exact ⟨none, 0, hv, fun h => absurd h (by omega)⟩
  · exact ⟨_, cap, hv, fun _ => ⟨g, rfl, hg, (Array.getElem?_eq_some_iff.1 hh).1⟩⟩
theorem ret_int {k : IntKind} {a b : Int} (h : a = b) : Ending.returned (.int k a) = .returned (.int k b) := by rw [h]
theorem ret_bool {a b : Bool} (h : a = b) : Ending.returned (.bool a) = .returned (.bool b) := by rw [h]
section
variable {H : Type} {enc : TypeId × Value → H} {P : Program}
/-- All arguments read behind the call as before, where below the old heap's size nothing has turned. -/
theorem below_trodAll (hl : laidOutB P = true) {W W' : World} (hb : Below W.heap.size W W') : ∀ {ts : List TypeId} {vs : List Value} {ds : List (DataW H)} {ps : List MemPlace},
    (ts.all fun t => P.readableRec t && decide (t < P.types.size)) = true → DataW.TrodAll enc P W 0 (fun _ => true) true ts vs ds ps → (∀ x ∈ ps, x.block < W.heap.size) → DataW.TrodAll enc P W' 0 (fun b => decide (b < W.heap.size)) true ts vs ds ps
  | [], [], [], _, _, h, _ => h
  | t :: ts, v :: vs, d :: ds, ps, hr, ⟨p, q, h1, h2, e⟩, hlt => by
    rw [List.all_cons, Bool.and_eq_true, Bool.and_eq_true] at hr
    exact ⟨p, q, Below.trod hl hr.1.1 (of_decide_eq_true hr.1.2) h1 hb (fun x hx => hlt x (by rw [e]; simp [hx])), below_trodAll hl hb hr.2 h2 (fun x hx => hlt x (by rw [e]; simp [hx])), e⟩
/-- Is a type a whole number of 64 bits with a sign? -/
def isI64 : Option TypeDesc → Bool
  | some (.int .i64) => true
  | _ => false
theorem isI64_eq {o : Option TypeDesc} (h : isI64 o = true) : o = some (.int .i64) := by
  unfold isI64 at h
  split at h
  · rfl
  · cases h
/-- A struct of whole numbers, as its cells. -/
theorem trod_i64s {w : World} {base : Nat} {spare : Nat → Bool} {held : Bool} {t : TypeId} {fs : Array Field} {fuel : Nat} {cs : List Value} {x : DataW H × List MemPlace} (hs : P.underlying t = some (.struct fs)) (hone : oneCellFields P fs = true)
    (hk : (fs.all fun f => isI64 (P.underlying f.type)) = true) (hC : P.cellsOf t = fs.size) (h : DataW.trod enc P w base spare held fuel t cs = some x) :
    ∃ ns : List Int, cs = ns.map (Value.int .i64) ∧ ns.length = fs.size ∧ ∀ n ∈ ns, (Lit.int .i64 n).wf = true := by
  obtain ⟨xs, m, _, hx, hlen, hxl, hg⟩ := DataW.trod_struct hs h
  have key : ∀ j, j < cs.length → ∃ n, cs[j]? = some (.int .i64 n) ∧ (Lit.int .i64 n).wf = true := by
    intro j hj
    have hj' : j < fs.size := by omega
    have hf : fs[j]? = some (fs[j]) := Array.getElem?_eq_getElem hj'
    obtain ⟨ho, hk1⟩ := Go.Deep.hone_of hone j _ hf
    have h1 := hg j _ hf
    rw [ho, hk1] at h1
    have hone' : (cs.drop j).take 1 = [cs[j]] := by
      rw [List.drop_eq_getElem_cons hj]; rfl
    rw [hone'] at h1
    have hu : P.underlying (fs[j]).type = some (.int .i64) := isI64_eq (by have := Array.all_eq_true.1 hk j hj'; simpa using this)
    have hxj : xs[j]? = some (xs[j]'(by omega)) := List.getElem?_eq_getElem (by omega)
    rw [hxj] at h1
    obtain ⟨n, e, _, wf⟩ := DataW.trod_int hu h1
    refine ⟨n, ?_, wf⟩
    rw [List.getElem?_eq_getElem hj]
    simpa using e
  clear hg h
  have : ∀ (cs : List Value), (∀ j, j < cs.length → ∃ n, cs[j]? = some (.int .i64 n) ∧ (Lit.int .i64 n).wf = true) → ∃ ns : List Int, cs = ns.map (Value.int .i64) ∧ ∀ n ∈ ns, (Lit.int .i64 n).wf = true := by
    intro cs
    induction cs with
    | nil => intro _; exact ⟨[], rfl, by simp⟩
    | cons c cs ih =>
      intro k
      obtain ⟨n, e, wf⟩ := k 0 (by simp)
      obtain ⟨ns, e2, wf2⟩ := ih (fun j hj => by obtain ⟨n, e, wf⟩ := k (j + 1) (by simp; omega); exact ⟨n, by simpa using e, wf⟩)
      refine ⟨n :: ns, ?_, ?_⟩
      · simp at e; simp [e, ← e2]
      · intro m hm
        rcases List.mem_cons.1 hm with rfl | h
        · exact wf
        · exact wf2 m h
  obtain ⟨ns, e, wf⟩ := this cs key
  exact ⟨ns, e, by rw [← hlen.trans hC, e, List.length_map], wf⟩
theorem open_i64s {w : World} {base : Nat} {spare : Nat → Bool} {held : Bool} {r : Reach} {b0 : Nat} {t : TypeId} {fs : Array Field} {v : Value} {d : DataW H} {p : List MemPlace} (hs : P.underlying t = some (.struct fs)) (hone : oneCellFields P fs = true)
    (hk : (fs.all fun f => isI64 (P.underlying f.type)) = true) (hC : P.cellsOf t = fs.size) (hv : Value.okWide P w r b0 t v) (h : DataW.Trod enc P w base spare held t v d p) :
    ∃ ns : List Int, v = .agg (ns.map (Value.int .i64)).toArray ∧ ns.length = fs.size ∧ ∀ n ∈ ns, (Lit.int .i64 n).wf = true := by
  obtain ⟨cs, rfl, hsz⟩ := okWide_struct hs hv
  obtain ⟨fuel, hf⟩ := h
  obtain ⟨ns, e, hl, wf⟩ := trod_i64s hs hone hk hC hf
  refine ⟨ns, ?_, hl, wf⟩
  have : cs.toList = ns.map (Value.int .i64) := e
  rw [← this]
/-- A slice of structs of whole numbers, nil or not. -/
theorem open_rows {w : World} {r : Reach} {b0 : Nat} {t e : TypeId} {fs : Array Field} {v : Value} {d : DataW H} {p : List MemPlace} (ht : P.underlying t = some (.slice e)) (he : P.underlying e = some (.struct fs)) (hone : oneCellFields P fs = true)
    (hk : (fs.all fun f => isI64 (P.underlying f.type)) = true) (hC : P.cellsOf e = fs.size) (hp : 0 < fs.size) (hv : Value.okWide P w r b0 t v) (h : DataW.Trod enc P w 0 (fun _ => true) true t v d p) :
    ∃ (A : Option Addr) (len cap : Nat) (X : Nat → Nat → Int), v = .slice A len cap ∧ len ≤ cap ∧ cap ≤ maxLen ∧
      (0 < len → ∃ b o, A = some ⟨b, o, none⟩ ∧ b < w.heap.size ∧ ∀ i, i < len → ∀ j, j < fs.size → w.cell? ⟨b, o + (i * fs.size + j), none⟩ = some (.int .i64 (X i j))) ∧
      ∀ i, i < len → ∀ j, j < fs.size → (Lit.int .i64 (X i j)).wf = true := by
  obtain ⟨A, len, cap, rfl⟩ := okWide_slice ht hv
  obtain ⟨fuel, hf⟩ := h
  rcases open_slice ht hf with ⟨hcs, _⟩ | ⟨a, len', cap', m, n, D, Pl, hcs, _, hl, hm, hmm, _, hi⟩
  · simp [Value.cells] at hcs
    obtain ⟨rfl, rfl, rfl⟩ := hcs
    exact ⟨none, 0, 0, fun _ _ => 0, rfl, by omega, by omega, fun h => by omega, fun i h => by omega⟩
  · simp [Value.cells] at hcs
    obtain ⟨rfl, rfl, rfl⟩ := hcs
    rw [hC] at hi
    have hle : len ≤ m := by rw [hmm]; split <;> omega
    have key : ∀ i, i < len → ∃ ns : List Int, ns.length = fs.size ∧ (∀ n ∈ ns, (Lit.int .i64 n).wf = true) ∧ ∀ j (hj : j < ns.length), w.cell? (a.add (i * fs.size + j)) = some (.int .i64 ns[j]) := by
      intro i hil
      obtain ⟨cs', hc, ht'⟩ := hi i (by omega)
      obtain ⟨ns, rfl, hnl, hwf⟩ := trod_i64s he hone hk hC ht'
      obtain ⟨_, hcl, hat⟩ := World.cells?_some hc
      refine ⟨ns, hnl, hwf, fun j hj => ?_⟩
      have := hat j (by omega)
      rw [Go.Deep.add_add] at this
      rw [this, List.getElem?_map, List.getElem?_eq_getElem hj]; rfl
    have hch := fun i (hil : i < len) => key i hil
    obtain ⟨X, hX⟩ : ∃ X : Nat → List Int, ∀ i, i < len → (X i).length = fs.size ∧ (∀ n ∈ X i, (Lit.int .i64 n).wf = true) ∧ ∀ j (hj : j < (X i).length), w.cell? (a.add (i * fs.size + j)) = some (.int .i64 (X i)[j]) :=
      ⟨fun i => if h : i < len then (key i h).choose else [], fun i hil => by simp only [dif_pos hil]; exact (key i hil).choose_spec⟩
    refine ⟨some a, len, cap, fun i j => (X i).getD j 0, rfl, hl, hm, fun h0 => ?_, fun i hil j hj => ?_⟩
    · have c0 := (hX 0 h0).2.2 0 (by have := (hX 0 h0).1; omega)
      simp only [Nat.zero_mul, Nat.zero_add] at c0
      have hs : a.spot = none ∧ a.block < w.heap.size := by
        have : a.add 0 = a := by simp [Addr.add]
        rw [this] at c0
        unfold World.cell? at c0
        cases hh : w.heap[a.block]? with
        | none => rw [hh] at c0; cases c0
        | some o =>
          refine ⟨?_, (Array.getElem?_eq_some_iff.1 hh).1⟩
          rw [hh] at c0
          cases o <;> first | (cases c0; done) | skip
          cases hsp : a.spot with
          | none => rfl
          | some q => simp [hsp] at c0
      obtain ⟨bb, oo, ss⟩ := a
      obtain ⟨rfl, hb⟩ := hs
      refine ⟨bb, oo, rfl, hb, fun i hil j hj => ?_⟩
      have hjl : j < (X i).length := by rw [(hX i hil).1]; exact hj
      have := (hX i hil).2.2 j hjl
      have ea : (⟨bb, oo, none⟩ : Addr).add (i * fs.size + j) = ⟨bb, oo + (i * fs.size + j), none⟩ := by
        unfold Addr.add; split
        · rename_i h; rw [h]; rfl
        · rfl
      rw [ea] at this
      rw [this]; simp [List.getD, List.getElem?_eq_getElem hjl]
    · have hjl : j < (X i).length := by rw [(hX i hil).1]; exact hj
      have e : (X i).getD j 0 = (X i)[j] := by simp [List.getD, List.getElem?_eq_getElem hjl]
      show (Lit.int .i64 ((X i).getD j 0)).wf = true
      rw [e]
      exact (hX i hil).2.1 _ (List.getElem_mem hjl)
end
end Go.Proofs.Ytgckncggcdmaaaa
