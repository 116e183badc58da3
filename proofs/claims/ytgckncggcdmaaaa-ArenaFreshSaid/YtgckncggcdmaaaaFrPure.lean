/- What is held: a map of maps. -/
import Derived.Test.YtgckncggcdmaaaaApPure
import Derived.Maps.OwnOps
namespace Go.Proofs.Ytgckncggcdmaaaa
open Go.RowKit Go.Maps
/-- How a map among a map's elements is told: by its block. -/
def refD (c : Option Nat) : DataW Unit := .lit (.int .i64 (match c with | some b => (b : Int) | none => -1))
def refR (v : Value) : Option (DataW Unit × List MemPlace) :=
  match v with
  | .map c => some (refD c, [])
  | _ => none
theorem refR_mk (c : Option Nat) : refR (.map c) = some (refD c, []) := rfl
theorem refR_inv {v : Value} {y : DataW Unit × List MemPlace} (h : refR v = some y) : ∃ c : Option Nat, v = .map c ∧ y = (refD c, []) := by
  unfold refR at h
  split at h
  · injection h with h; exact ⟨_, rfl, h.symm⟩
  · cases h
theorem refD_inj {c d : Option Nat} (h : refD c = refD d) : c = d := by
  unfold refD at h
  injection h with h
  injection h with _ h
  cases c <;> cases d <;> simp_all <;> omega
theorem frZero (w : World) : (zeroValue 38).run Try.prog w = .ok (.map none) w := by kernel_rfl
theorem frZeroI (w : World) : (zeroValue 3).run Try.prog w = .ok (.int .i64 0) w := by kernel_rfl
theorem lit_inj {a b : Int} (h : (DataW.lit (.int .i64 a) : DataW Unit) = .lit (.int .i64 b)) : a = b := by
  injection h with h
  injection h with _ h
/-- The datum of the outer map. -/
structure RefOf (D : DataW Unit) (rs : List Rg) (f : Int → Nat) : Prop where
  tidy : Maps.Tidy D
  has : ∀ id : Int, Maps.has D (.int .i64 id) = (findR rs id).isSome
  at_ : ∀ (id : Int) (r : Rg) (z : DataW Unit), findR rs id = some r → D.atKey (.int .i64 id) z = refD (some (f id))
/-- The inner map of a region holds what its cells hold. -/
def InAt (w : World) (k bl : Nat) (cs : List Int) (r : Rg) : Prop :=
  ∃ Di : DataW Unit, w.ownsMap Try.prog 3 (plainElem Try.prog 3) bl k Di ∧ Maps.IsMap Di ∧ ∀ i : Nat, i < r.n → Di.atKey (.int .i64 (i : Int)) (.lit (.int .i64 0)) = .lit (.int .i64 (cs.getD (r.b + i) 0))
/-- What is held of an arena. -/
structure HeldAt (w : World) (B k Hb : Nat) (A : Ar) (f : Int → Nat) : Prop where
  own : ∃ D : DataW Unit, w.ownsMap Try.prog 3 refR Hb k D ∧ RefOf D A.rs f
  inner : ∀ r ∈ A.rs, InAt w k (f r.id) A.cs r
  inj : ∀ r ∈ A.rs, ∀ s ∈ A.rs, f r.id = f s.id → r = s
  lo : ∀ r ∈ A.rs, B ≤ f r.id ∧ f r.id ≠ Hb
  hb : B ≤ Hb
theorem HeldAt.start (w : World) (B k n : Nat) (hB : B ≤ w.heap.size) (f : Int → Nat) : HeldAt (w.alloc (.map #[] 0)) B k w.heap.size (Ar.new n) f :=
  ⟨⟨_, (World.ownsMap_made _ _ _ _).mono (Nat.zero_le _), Maps.tidy_empty, (fun _ => rfl), (fun _ _ _ h => nomatch h)⟩, (fun _ h => nomatch h), (fun _ h => nomatch h), (fun _ h => nomatch h), hB⟩
theorem HeldAt.bare {w : World} {B k : Nat} {A : Ar} (hB : B ≤ w.heap.size) (f : Int → Nat) (h : A.rs = []) : HeldAt (w.alloc (.map #[] 0)) B k w.heap.size A f := by
  refine ⟨⟨_, (World.ownsMap_made _ _ _ _).mono (Nat.zero_le _), Maps.tidy_empty, fun _ => by rw [h]; rfl, fun _ _ _ q => by rw [h] at q; cases q⟩, ?_, ?_, ?_, hB⟩
  · rw [h]; exact fun _ h => nomatch h
  · rw [h]; exact fun _ h => nomatch h
  · rw [h]; exact fun _ h => nomatch h
section
variable {w w' : World} {B k Hb : Nat} {A : Ar} {f : Int → Nat}
theorem InAt.only {S : List Nat} {bl : Nat} {cs : List Int} {r : Rg} (h : InAt w k bl cs r) (q : Only S w w') (hb : bl ∉ S) : InAt w' k bl cs r := by
  obtain ⟨D, h1, h2⟩ := h
  exact ⟨D, own_map_only h1 q hb, h2⟩
theorem InAt.mono {k' bl : Nat} {cs : List Int} {r : Rg} (h : InAt w k bl cs r) (hk : k ≤ k') : InAt w k' bl cs r := by
  obtain ⟨D, h1, h2⟩ := h
  exact ⟨D, h1.mono hk, h2⟩
theorem InAt.lt {bl : Nat} {cs : List Int} {r : Rg} (h : InAt w k bl cs r) : bl < w.heap.size := by obtain ⟨D, h1, _⟩ := h; exact h1.lt
theorem HeldAt.far (h : HeldAt w B k Hb A f) {S : List Nat} (q : Only S w w') (hS : ∀ x ∈ S, x < B ∨ w.heap.size ≤ x) : HeldAt w' B k Hb A f := by
  obtain ⟨D, h1, h2⟩ := h.own
  refine ⟨⟨D, own_map_only h1 q (fun hm => ?_), h2⟩, fun r hr => (h.inner r hr).only q (fun hm => ?_), h.inj, h.lo, h.hb⟩
  · have := hS _ hm; have := h.hb; have := h1.lt; omega
  · have := hS _ hm; have := (h.lo r hr).1; have := (h.inner r hr).lt; omega
theorem HeldAt.below (h : HeldAt w B k Hb A f) (q : Below w.heap.size w w') : HeldAt w' B k Hb A f := h.far (Only.ofBelow [] q) (by simp)
theorem HeldAt.mono (h : HeldAt w B k Hb A f) {k' : Nat} (hk : k ≤ k') : HeldAt w B k' Hb A f := by
  obtain ⟨D, h1, h2⟩ := h.own
  exact ⟨⟨D, h1.mono hk, h2⟩, fun r hr => (h.inner r hr).mono hk, h.inj, h.lo, h.hb⟩
/-- A region is handed out: a new inner map. -/
theorem HeldAt.alloc (h : HeldAt w B k Hb A f) (hA : A.ok) {base n : Nat} (hg : gapL A.rs 0 A.size n = some base) {bl : Nat} {D : DataW Unit} (hD : RefOf D A.rs f)
    (hbl : w.ownsMap Try.prog 3 (plainElem Try.prog 3) bl 0 (.map [] : DataW Unit)) (hnew : ∀ r ∈ A.rs, f r.id ≠ bl) (hlo : B ≤ bl ∧ bl ≠ Hb) (hgr : w.grownBy w' (some Hb))
    (ho : w'.ownsMap Try.prog 3 refR Hb (k + 1) (D.put (.int .i64 ((A.last + 1 : Nat) : Int)) (refD (some bl)))) :
    HeldAt w' B (k + 1) Hb (A.alloc base n) (fun x => if x = ((A.last + 1 : Nat) : Int) then bl else f x) := by
  have hne : ∀ r ∈ A.rs, (r.id : Int) ≠ ((A.last + 1 : Nat) : Int) := fun r hr => by have := (hA.each r hr).2.2.2; omega
  have hne' : ∀ r ∈ A.rs, r.id ≠ A.last + 1 := fun r hr => by have := (hA.each r hr).2.2.2; omega
  have hoo := Only.ofGrown1 hgr
  obtain ⟨_, g2, g3⟩ := gapL_some hA.sorted (fun r hr => ⟨Nat.zero_le _, (hA.each r hr).2.1⟩) hg
  refine ⟨⟨_, ho, ?_⟩, fun r hr => ?_, fun r hr s hs => ?_, fun r hr => ?_, h.hb⟩
  · refine ⟨hD.tidy.put (isKeyI _) _, fun id => ?_, fun id r z hf => ?_⟩
    · show _ = (findR (insR _ A.rs) id).isSome
      rw [findR_insR hne']
      by_cases e : ((A.last + 1 : Nat) : Int) = id
      · subst e; rw [Maps.has_put_same hD.tidy.isMap (isKeyI _), if_pos rfl]; rfl
      · rw [Maps.has_put_other (by intro q; simp at q; omega), if_neg e, hD.has]
    · have hf' : findR (insR ⟨A.last + 1, base, n⟩ A.rs) id = some r := hf
      rw [findR_insR hne'] at hf'
      by_cases e : ((A.last + 1 : Nat) : Int) = id
      · subst e; rw [if_pos rfl]; exact Maps.atKey_put_same hD.tidy.isMap (isKeyI _) _ _
      · rw [if_neg e] at hf'
        rw [if_neg (fun q => e q.symm), Maps.atKey_put_other (by intro q; simp at q; omega)]
        exact hD.at_ id r z hf'
  · rcases mem_insR.1 hr with rfl | hr
    · simp only [if_pos]
      refine ⟨.map [], own_map_only (hbl.mono (Nat.zero_le _)) hoo (by simpa using hlo.2), isMap_empty, fun i hi => ?_⟩
      have hi' : i < n := hi
      have hc := hA.clean (base + i) (by omega) (fun r hr hin => by have := g3 r hr; unfold inR at hin; omega)
      show DataW.lit _ = DataW.lit (.int .i64 (A.cs.getD (base + i) 0))
      rw [List.getD_eq_getElem?_getD, hc]; rfl
    · rw [if_neg (hne r hr)]
      exact ((h.inner r hr).only hoo (by simpa using (h.lo r hr).2)).mono (Nat.le_succ _)
  · rcases mem_insR.1 hr with rfl | hr
    · rcases mem_insR.1 hs with rfl | hs
      · exact fun _ => rfl
      · simp only [if_pos]
        rw [if_neg (hne s hs)]
        exact fun e => absurd e.symm (hnew s hs)
    · rcases mem_insR.1 hs with rfl | hs
      · simp only [if_pos]
        rw [if_neg (hne r hr)]
        exact fun e => absurd e (hnew r hr)
      · rw [if_neg (hne r hr), if_neg (hne s hs)]
        exact h.inj r hr s hs
  · rcases mem_insR.1 hr with rfl | hr
    · simp only [if_pos]; exact hlo
    · rw [if_neg (hne r hr)]; exact h.lo r hr
/-- A region is freed, its inner map dropped. -/
theorem HeldAt.free (h : HeldAt w B k Hb A f) (hA : A.ok) {r : Rg} (hr : r ∈ A.rs) {D : DataW Unit} (hD : RefOf D A.rs f) (hgr : w.grownBy w' (some Hb)) (ho : w'.ownsMap Try.prog 3 refR Hb k (D.del (.int .i64 (r.id : Int)))) : HeldAt w' B k Hb (A.free r) f := by
  have hoo := Only.ofGrown1 hgr
  refine ⟨⟨_, ho, ?_⟩, fun s hs => ?_, fun s hs t ht => h.inj s (List.mem_filter.1 hs).1 t (List.mem_filter.1 ht).1, fun s hs => h.lo s (List.mem_filter.1 hs).1, h.hb⟩
  · refine ⟨hD.tidy.del _, fun id => ?_, fun id s z hf => ?_⟩
    · show _ = (findR (A.rs.filter (· ≠ r)) id).isSome
      rw [findR_filter hA.ids hr]
      by_cases e : (r.id : Int) = id
      · subst e; rw [Maps.has_del_same, if_pos rfl]; rfl
      · rw [Maps.has_del_other (by intro q; simp at q; omega), if_neg e, hD.has]
    · have hf' : findR (A.rs.filter (· ≠ r)) id = some s := hf
      rw [findR_filter hA.ids hr] at hf'
      by_cases e : (r.id : Int) = id
      · rw [if_pos e] at hf'; cases hf'
      · rw [if_neg e] at hf'; rw [Maps.atKey_del_other (by intro q; simp at q; omega)]; exact hD.at_ id s z hf'
  · obtain ⟨hs1, hs2⟩ := List.mem_filter.1 hs
    have hne : s ≠ r := by simpa using hs2
    obtain ⟨Di, i1, i2, i3⟩ := (h.inner s hs1).only hoo (by simpa using (h.lo s hs1).2)
    refine ⟨Di, i1, i2, fun i hi => ?_⟩
    rw [i3 i hi]
    have h1 := hA.each s hs1
    have h2 := hA.each r hr
    have hl := hA.len
    show DataW.lit (.int .i64 _) = DataW.lit (.int .i64 ((clearAt A.cs r.b r.n).getD (s.b + i) 0))
    rw [List.getD_eq_getElem?_getD, List.getD_eq_getElem?_getD, clearAt_get (by omega) (by omega), if_neg (by have := pair_apart hA.sorted hs1 hr hne; omega)]
/-- A cell is set, in the arena and in the inner map. -/
theorem HeldAt.set (h : HeldAt w B k Hb A f) (hA : A.ok) {r : Rg} (hr : r ∈ A.rs) {i : Nat} (hi : i < r.n) (v : Int) {Di : DataW Unit} (hm : Maps.IsMap Di) (hDi : ∀ j : Nat, j < r.n → Di.atKey (.int .i64 (j : Int)) (.lit (.int .i64 0)) = .lit (.int .i64 (A.cs.getD (r.b + j) 0)))
    (hgr : w.grownBy w' (some (f r.id))) (ho : w'.ownsMap Try.prog 3 (plainElem Try.prog 3) (f r.id) (k + 1) (Di.put (.int .i64 (i : Int)) (.lit (.int .i64 v)))) : HeldAt w' B (k + 1) Hb (A.set (r.b + i) v) f := by
  have hoo := Only.ofGrown1 hgr
  obtain ⟨D, h1, h2⟩ := h.own
  have hl := hA.len
  have hre := hA.each r hr
  refine ⟨⟨D, (own_map_only h1 hoo (by simpa using Ne.symm (h.lo r hr).2)).mono (Nat.le_succ _), h2⟩, fun s hs => ?_, h.inj, h.lo, h.hb⟩
  by_cases e : s = r
  · subst e
    refine ⟨_, ho, hm.put _ _, fun j hj => ?_⟩
    show _ = DataW.lit (.int .i64 ((A.cs.set (s.b + i) v).getD (s.b + j) 0))
    by_cases q : j = i
    · subst q
      rw [Maps.atKey_put_same hm (isKeyI _), List.getD_eq_getElem?_getD, List.getElem?_set_self (by omega)]; rfl
    · rw [Maps.atKey_put_other (by intro z; simp at z; omega), hDi j hj, List.getD_eq_getElem?_getD, List.getD_eq_getElem?_getD, List.getElem?_set_ne (by omega)]
  · obtain ⟨Ds, i1, i2, i3⟩ := ((h.inner s hs).only hoo (by simp; exact fun q => e (h.inj s hs r hr q))).mono (Nat.le_succ _)
    refine ⟨Ds, i1, i2, fun j hj => ?_⟩
    rw [i3 j hj]
    have hse := hA.each s hs
    show DataW.lit (.int .i64 _) = DataW.lit (.int .i64 ((A.cs.set (r.b + i) v).getD (s.b + j) 0))
    rw [List.getD_eq_getElem?_getD, List.getD_eq_getElem?_getD, List.getElem?_set_ne (by have := pair_apart hA.sorted hs hr e; omega)]
theorem findR_new {A : Ar} (hA : A.ok) (base n : Nat) : findR (A.alloc base n).rs ((A.last + 1 : Nat) : Int) = some ⟨A.last + 1, base, n⟩ := by
  show findR (insR _ A.rs) _ = _
  rw [findR_insR (fun r hr => by have := (hA.each r hr).2.2.2; show r.id ≠ A.last + 1; omega), if_pos rfl]
theorem alloc_zero {A : Ar} (hA : A.ok) {base n : Nat} (hg : gapL A.rs 0 A.size n = some base) {i : Nat} (hi : i < n) : (A.alloc base n).cs.getD (base + i) 0 = 0 := by
  obtain ⟨_, g2, g3⟩ := gapL_some hA.sorted (fun r hr => ⟨Nat.zero_le _, (hA.each r hr).2.1⟩) hg
  have hc := hA.clean (base + i) (by omega) (fun r hr hin => by have := g3 r hr; unfold inR at hin; omega)
  show A.cs.getD (base + i) 0 = 0
  rw [List.getD_eq_getElem?_getD, hc]; rfl
/-- The inner map is found. -/
theorem HeldAt.look (h : HeldAt w B k Hb A f) {r : Rg} (hr : r ∈ A.rs) (hA : A.ok) (hid : (Lit.int .i64 (r.id : Int)).wf = true) : (Instr.lookup 37 (.map (some Hb)) (.int .i64 (r.id : Int)) false).run Try.prog w = .ok (.map (some (f r.id))) w := by
  obtain ⟨D, h1, h2⟩ := h.own
  obtain ⟨v, ps, hrun, hv⟩ := h1.lookup law_int Try.underlying37 (frZero w) (zd := refD none) (zp := []) (refR_mk none) (keyI _ hid)
  obtain ⟨c, rfl, hc⟩ := refR_inv hv
  rw [h2.at_ _ r _ (findR_of hA.ids hr)] at hc
  have := refD_inj (Prod.mk.inj hc).1
  rw [hrun]
  exact congrArg (fun c => Result.ok (Value.map c) w) this.symm
theorem InAt.look {bl : Nat} {cs : List Int} {r : Rg} (h : InAt w k bl cs r) {i : Nat} (hi : i < r.n) (hw : (Lit.int .i64 (i : Int)).wf = true) : (Instr.lookup 38 (.map (some bl)) (.int .i64 (i : Int)) false).run Try.prog w = .ok (.int .i64 (cs.getD (r.b + i) 0)) w := by
  obtain ⟨Di, h1, h2, h3⟩ := h
  obtain ⟨c, hrun, hc, _⟩ := h1.lookup_int law_int Try.underlying38 Try.underlying3 (frZeroI w) (keyI _ hw)
  have hc2 := (h3 i hi).symm.trans hc
  rw [hrun, lit_inj hc2]
end
end Go.Proofs.Ytgckncggcdmaaaa
