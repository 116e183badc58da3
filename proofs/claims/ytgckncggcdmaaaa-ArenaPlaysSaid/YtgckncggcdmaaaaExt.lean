/- Regions that draw, and whose callees only make memory, in one walk. -/
import Derived.Test.YtgckncggcdmaaaaKit
import Derived.Deep.QuietTactic
import Derived.BigQuiet
import Derived.Lib.Hide
namespace Go.Proofs.Ytgckncggcdmaaaa
open Go.RowKit
/-- A world in which all that was there is as it was: behind calls that only make memory. -/
structure Ext (w : World) where
  v : World
  h : Below w.heap.size w v
instance (w : World) : Nonempty (Ext w) := ⟨⟨w, Below.refl _ _⟩⟩
theorem Ext.cell {w : World} (x : Ext w) {b o : Nat} {u : Value} (h : w.cell? ⟨b, o, none⟩ = some u) : x.v.cell? ⟨b, o, none⟩ = some u := by
  rw [← h]
  refine x.h.cell (p := ⟨b, o, none⟩) ?_
  unfold World.cell? at h
  cases hh : w.heap[b]? with
  | none => simp [hh] at h
  | some o => exact (Array.getElem?_eq_some_iff.1 hh).1
theorem Ext.free {w : World} (x : Ext w) {b o : Nat} (hb : b < w.heap.size) : x.v.frozen? ⟨b, o, none⟩ = w.frozen? ⟨b, o, none⟩ := x.h.frozen (p := ⟨b, o, none⟩) hb
/-- A region whose operations read, and whose callees only make memory: one walk serves every order. -/
theorem wp_region_ext {P : Program} {id : Nat} {Q : Exit → Act → World → Prop} {a : Act} {w : World} {l : List Oper} (hm : P.follows .mixedOrders = true) (hB : Region.lexB .any l.toArray = true)
    (h : wpQuiet P l.toArray (fun w' => ∃ x : Ext w, w' = x.v) (fun a' => ∀ w', (∃ x : Ext w, w' = x.v) → Q .normal a' w') l a) : (Code.region id l.toArray true).wp P Q a w :=
  wp_region_quiet (C := fun w' => ∃ x : Ext w, w' = x.v) hm hB ⟨⟨w.drew, ⟨rfl, rfl, rfl, Nat.le_refl _, fun _ _ => rfl⟩⟩, rfl⟩ (by simpa using h)
theorem Calls.ext_of {P : Program} {f : FuncId} {args : Array Value} {w : World} {x : Ext w} {v : Value}
    (h : Calls P f args x.v fun e w' => e = .returned v ∧ Below x.v.heap.size x.v w') : Calls P f args x.v fun e w'' => e = .returned v ∧ ∃ y : Ext w, w'' = y.v :=
  h.mono fun _ w'' ⟨he, hw⟩ => ⟨he, ⟨w'', x.h.trans (hw.mono x.h.size)⟩, rfl⟩
theorem Calls.ext_same {P : Program} {f : FuncId} {args : Array Value} {w : World} {x : Ext w} {v : Value}
    (h : Calls P f args x.v fun e w' => e = .returned v ∧ w' = x.v) : Calls P f args x.v fun e w'' => e = .returned v ∧ ∃ y : Ext w, w'' = y.v :=
  h.mono fun _ _ ⟨he, hw⟩ => ⟨he, x, hw⟩
theorem below_ext {w wz : World} (h : Below w.heap.size w wz) (x : Ext wz) : Below w.heap.size w x.v := h.trans (x.h.mono h.size)
theorem Blk.ext {w : World} {g : Nat} {t : TypeId} {cs : Array Value} (h : Blk w g t cs) (x : Ext w) (i : Nat) : x.v.cell? ⟨g, i, none⟩ = cs[i]? := (h.below x.h).cell i
end Go.Proofs.Ytgckncggcdmaaaa
