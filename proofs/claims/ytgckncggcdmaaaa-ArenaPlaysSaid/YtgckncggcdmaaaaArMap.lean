/- The regions of an arena as a map. -/
import Derived.Test.YtgckncggcdmaaaaArIter
import Derived.Test.YtgckncggcdmaaaaArPure
import Derived.Test.YtgckncggcdmaaaaTail
import Derived.Maps.OwnSet
namespace Go.Proofs.Ytgckncggcdmaaaa
open Go.RowKit Go.Maps
def prs (rs : List Rg) : List (Int × Int) := rs.map fun r => ((r.b : Int), (r.n : Int))
theorem prs_len (rs : List Rg) : (prs rs).length = rs.length := by unfold prs; simp
theorem keyI (x : Int) (h : (Lit.int .i64 x).wf = true) : keyOf Try.prog 3 (.int .i64 x) = some (.int .i64 x) := keyOf_int_mk Try.underlying3 h
theorem wfI {x : Int} (h1 : -9223372036854775808 ≤ x) (h2 : x ≤ 9223372036854775807) : (Lit.int .i64 x).wf = true := by
  simp only [Lit.wf]
  rw [show IntKind.i64.min = -9223372036854775808 from by decide, show IntKind.i64.max = 9223372036854775807 from by decide, Bool.and_eq_true, decide_eq_true_iff, decide_eq_true_iff]; omega
theorem isKeyI (x : Int) : WideAt.IsKeyLit (.int .i64 x) := trivial
/-- The datum of a map with the regions rs. -/
structure RsOf (D : DataW Unit) (rs : List Rg) : Prop where
  tidy : Maps.Tidy D
  size : Maps.size D = rs.length
  has : ∀ id : Int, Maps.has D (.int .i64 id) = (findR rs id).isSome
  at_ : ∀ (id : Int) (r : Rg) (z : DataW Unit), findR rs id = some r → D.atKey (.int .i64 id) z = rgD (r.b, r.n)
def MapR (w : World) (b : Nat) (rs : List Rg) : Prop := ∃ D : DataW Unit, w.ownsMap Try.prog 3 rgR b rs.length D ∧ RsOf D rs
theorem RsOf.nil : RsOf (.map []) [] := ⟨Maps.tidy_empty, rfl, fun _ => rfl, fun _ _ _ h => nomatch h⟩
theorem MapR.made (w : World) : MapR (w.alloc (.map #[] 0)) w.heap.size [] := ⟨_, World.ownsMap_made _ _ _ _, RsOf.nil⟩
theorem MapR.lt {w : World} {b : Nat} {rs : List Rg} (h : MapR w b rs) : b < w.heap.size := by obtain ⟨D, h1, _⟩ := h; exact h1.lt
theorem own_map_only {S : List Nat} {w w' : World} {b n : Nat} {k : TypeId} {R : Value → Option (DataW Unit × List MemPlace)} {D : DataW Unit} (h : w.ownsMap Try.prog k R b n D) (q : Only S w w') (hb : b ∉ S) : w'.ownsMap Try.prog k R b n D := by
  obtain ⟨es, clock, h1, h2⟩ := h
  exact ⟨es, clock, (q.block b (Array.getElem?_eq_some_iff.1 h1).1 hb).trans h1, h2⟩
theorem own_map_tight {w : World} {b n : Nat} {k : TypeId} {R : Value → Option (DataW Unit × List MemPlace)} {D : DataW Unit} (h : w.ownsMap Try.prog k R b n D) : w.ownsMap Try.prog k R b (Maps.size D) D := by
  obtain ⟨es, clock, hb, F, hs, rfl⟩ := h
  refine ⟨es, clock, hb, F, ?_, rfl⟩
  simp [Maps.size, length_sorted]
theorem MapR.only {S : List Nat} {w w' : World} {b : Nat} {rs : List Rg} (h : MapR w b rs) (k : Only S w w') (hb : b ∉ S) : MapR w' b rs := by
  obtain ⟨D, h1, h2⟩ := h
  exact ⟨D, own_map_only h1 k hb, h2⟩
theorem MapR.below {w w' : World} {b : Nat} {rs : List Rg} (h : MapR w b rs) (k : Below w.heap.size w w') : MapR w' b rs := h.only (Only.ofBelow [] k) (by simp)
theorem MapR.drew {w : World} {b : Nat} {rs : List Rg} (h : MapR w b rs) : MapR w.drew b rs := h
theorem findR_insR {x : Rg} {rs : List Rg} (hx : ∀ r ∈ rs, r.id ≠ x.id) (id : Int) : findR (insR x rs) id = if (x.id : Int) = id then some x else findR rs id := by
  induction rs with
  | nil =>
    show List.find? _ [x] = _
    rw [List.find?_cons]
    by_cases h : (x.id : Int) = id
    · rw [show ((x.id : Int) == id) = true from by simpa using h, if_pos h]
    · rw [show ((x.id : Int) == id) = false from by simpa using h, if_neg h]; rfl
  | cons r t ih =>
    have hx' : ∀ r ∈ t, r.id ≠ x.id := fun s hs => hx s (List.mem_cons_of_mem _ hs)
    have hr := hx r (List.mem_cons_self ..)
    unfold insR
    split
    · show List.find? _ (x :: r :: t) = _
      rw [List.find?_cons]
      by_cases h : (x.id : Int) = id
      · rw [show ((x.id : Int) == id) = true from by simpa using h, if_pos h]
      · rw [show ((x.id : Int) == id) = false from by simpa using h, if_neg h]; rfl
    · have := ih hx'
      unfold findR at this ⊢
      rw [List.find?_cons, List.find?_cons, this]
      by_cases h : (x.id : Int) = id
      · rw [show ((r.id : Int) == id) = false from by simp; omega, if_pos h]
      · simp [h]
theorem findR_filter {rs : List Rg} (hn : (rs.map (·.id)).Nodup) {r : Rg} (hr : r ∈ rs) (id : Int) : findR (rs.filter (· ≠ r)) id = if (r.id : Int) = id then none else findR rs id := by
  induction rs with
  | nil => exact nomatch hr
  | cons s t ih =>
    rw [List.map_cons] at hn
    obtain ⟨h1, h2⟩ := List.nodup_cons.1 hn
    by_cases e : s = r
    · subst e
      have hf : t.filter (· ≠ s) = t := List.filter_eq_self.2 fun x hx => by
        have : x ≠ s := fun e => h1 (List.mem_map.2 ⟨x, hx, by rw [e]⟩)
        simpa using this
      rw [List.filter_cons, if_neg (by simp), hf]
      unfold findR
      by_cases h : (s.id : Int) = id
      · rw [if_pos h, List.find?_eq_none]
        intro x hx
        have : x.id ≠ s.id := fun e => h1 (List.mem_map.2 ⟨x, hx, e⟩)
        simp only [beq_iff_eq]; omega
      · rw [if_neg h, List.find?_cons, show ((s.id : Int) == id) = false from by simpa using h]
    · have hr' : r ∈ t := (List.mem_cons.1 hr).resolve_left fun x => e x.symm
      have hne : s.id ≠ r.id := fun q => h1 (List.mem_map.2 ⟨r, hr', q.symm⟩)
      have := ih h2 hr'
      rw [List.filter_cons, if_pos (by simpa using e)]
      unfold findR at this ⊢
      rw [List.find?_cons, List.find?_cons, this]
      by_cases h : (r.id : Int) = id
      · rw [show ((s.id : Int) == id) = false from by simp; omega, if_pos h]
      · simp [h]
theorem RsOf.put {D : DataW Unit} {rs : List Rg} (h : RsOf D rs) {x : Rg} (hx : ∀ r ∈ rs, r.id ≠ x.id) : RsOf (D.put (.int .i64 (x.id : Int)) (rgD (x.b, x.n))) (insR x rs) := by
  have hno : Maps.has D (.int .i64 (x.id : Int)) = false := by
    rw [h.has]
    cases hf : findR rs (x.id : Int) with
    | none => rfl
    | some r => exact absurd (by have := (findR_some hf).2; omega) (hx r (findR_some hf).1)
  refine ⟨h.tidy.put (isKeyI _) _, ?_, fun id => ?_, fun id r z hf => ?_⟩
  · rw [Maps.size_put h.tidy, hno, h.size, (insR_perm x rs).length_eq]; simp
  · rw [findR_insR hx]
    by_cases e : (x.id : Int) = id
    · subst e; rw [Maps.has_put_same h.tidy.isMap (isKeyI _), if_pos rfl]; rfl
    · rw [Maps.has_put_other (by intro q; simp at q; exact e q.symm), if_neg e, h.has]
  · rw [findR_insR hx] at hf
    by_cases e : (x.id : Int) = id
    · subst e; rw [if_pos rfl] at hf; injection hf with hf; subst hf; exact Maps.atKey_put_same h.tidy.isMap (isKeyI _) _ _
    · rw [if_neg e] at hf; rw [Maps.atKey_put_other (by intro q; simp at q; exact e q.symm)]; exact h.at_ id r z hf
theorem RsOf.del {D : DataW Unit} {rs : List Rg} (h : RsOf D rs) (hn : (rs.map (·.id)).Nodup) {r : Rg} (hr : r ∈ rs) : RsOf (D.del (.int .i64 (r.id : Int))) (rs.filter (· ≠ r)) := by
  refine ⟨h.tidy.del _, ?_, fun id => ?_, fun id s z hf => ?_⟩
  · have h1 := Maps.size_del (k := .int .i64 (r.id : Int)) h.tidy
    rw [h.has, findR_of hn hr, h.size] at h1
    have : (rs.filter (· ≠ r)).length + 1 = rs.length := by
      clear h1 h
      induction rs with
      | nil => exact nomatch hr
      | cons s t ih =>
        rw [List.map_cons] at hn
        obtain ⟨h1, h2⟩ := List.nodup_cons.1 hn
        by_cases e : s = r
        · subst e
          have hf : t.filter (· ≠ s) = t := List.filter_eq_self.2 fun x hx => by
            have : x ≠ s := fun e => h1 (List.mem_map.2 ⟨x, hx, by rw [e]⟩)
            simpa using this
          rw [List.filter_cons, if_neg (by simp), hf]; rfl
        · have hr' : r ∈ t := (List.mem_cons.1 hr).resolve_left fun x => e x.symm
          rw [List.filter_cons, if_pos (by simpa using e), List.length_cons, ih h2 hr', List.length_cons]
    simp at h1
    omega
  · rw [findR_filter hn hr]
    by_cases e : (r.id : Int) = id
    · subst e; rw [Maps.has_del_same, if_pos rfl]; rfl
    · rw [Maps.has_del_other (by intro q; simp at q; exact e q.symm), if_neg e, h.has]
  · rw [findR_filter hn hr] at hf
    by_cases e : (r.id : Int) = id
    · rw [if_pos e] at hf; cases hf
    · rw [if_neg e] at hf; rw [Maps.atKey_del_other (by intro q; simp at q; exact e q.symm)]; exact h.at_ id s z hf
/-- What comes of the map, one by one, is what the regions are. -/
theorem MapR.perm {w : World} {b n : Nat} {D : DataW Unit} {rs : List Rg} (hown : w.ownsMap Try.prog 3 rgR b n D) (h : RsOf D rs) (hn : (rs.map (·.id)).Nodup) {xs : List (Int × Int)} (hx : RgOf D xs) : (prs rs).Perm xs := by
  obtain ⟨ps, ⟨hk, hv⟩, rfl⟩ := hx
  obtain ⟨es, hD, hpw, _⟩ := hown.entries law_int
  obtain ⟨es', hD', hko⟩ := hown.keysOf
  obtain rfl : es = es' := by rw [hD] at hD'; simpa using hD'
  have hni : (rs.map fun r => (r.id : Int)).Nodup := by
    have : (rs.map fun r => (r.id : Int)) = (rs.map (·.id)).map (fun n : Nat => (n : Int)) := by simp
    rw [this]
    exact List.pairwise_map.2 (hn.imp (by intro a b hab q; exact hab (by omega)))
  have hids : (rs.map fun r => (r.id : Int)).Perm (intKeys D) := by
    subst hD
    refine perm_intKeys hpw (fun p hp => by obtain ⟨v, hv⟩ := hko p hp; obtain ⟨x, _, hx, _⟩ := Maps.keyOf_i64 Try.underlying3 hv; exact ⟨x, hx⟩) hni fun x => ?_
    rw [h.has, List.mem_map]
    constructor
    · rintro ⟨r, hr, rfl⟩; rw [findR_of hn hr]; rfl
    · intro hs
      cases hf : findR rs x with
      | none => rw [hf] at hs; cases hs
      | some r => exact ⟨r, (findR_some hf).1, (findR_some hf).2⟩
  have hkp := hids.trans hk.symm
  have key : (rs.map fun r => ((r.id : Int), ((r.b : Int), (r.n : Int)))).Perm ps := by
    have hnd1 : (rs.map fun r => ((r.id : Int), ((r.b : Int), (r.n : Int)))).Nodup := by
      refine List.pairwise_map.2 ?_
      have := List.pairwise_map.1 hni
      exact this.imp (by intro a b hab q; exact hab (Prod.mk.inj q).1)
    have hnd2 : ps.Nodup := by
      have := List.pairwise_map.1 (hkp.nodup_iff.1 hni)
      exact this.imp (by intro a b hab q; exact hab (by rw [q]))
    refine (List.perm_ext_iff_of_nodup hnd1 hnd2).2 fun p => ?_
    constructor
    · intro hp
      obtain ⟨r, hr, rfl⟩ := List.mem_map.1 hp
      have : (r.id : Int) ∈ ps.map (·.1) := hkp.mem_iff.1 (List.mem_map.2 ⟨r, hr, rfl⟩)
      obtain ⟨q, hq, e⟩ := List.mem_map.1 this
      have h1 := hv q hq .nil
      have h2 := h.at_ (r.id : Int) r .nil (findR_of hn hr)
      rw [e, h2] at h1
      have := rgD_inj h1
      rw [show ((r.id : Int), ((r.b : Int), (r.n : Int))) = q from Prod.ext e.symm this]
      exact hq
    · intro hp
      have : p.1 ∈ rs.map fun r => (r.id : Int) := hkp.mem_iff.2 (List.mem_map.2 ⟨p, hp, rfl⟩)
      obtain ⟨r, hr, e⟩ := List.mem_map.1 this
      have h1 := hv p hp .nil
      have h2 := h.at_ (r.id : Int) r .nil (findR_of hn hr)
      rw [← e, h2] at h1
      have := rgD_inj h1
      exact List.mem_map.2 ⟨r, hr, Prod.ext e this⟩
  have := key.map (·.2)
  rw [List.map_map] at this
  exact this
theorem zero_rg (w : World) : (zeroValue 62).run Try.prog w = .ok (.agg #[.int .i64 0, .int .i64 0]) w := by kernel_rfl
theorem MapR.look {w : World} {b : Nat} {rs : List Rg} (h : MapR w b rs) {id : Int} (hid : (Lit.int .i64 id).wf = true) :
    (Instr.lookup 57 (.map (some b)) (.int .i64 id) true).run Try.prog w = .ok (.tuple #[match findR rs id with | some r => encRg (r.b, r.n) | none => encRg (0, 0), .bool (findR rs id).isSome]) w := by
  obtain ⟨D, h1, h2⟩ := h
  obtain ⟨v, ps, hrun, hv⟩ := h1.look_ok law_int Try.underlying57 (zero_rg w) (rgR_mk (0, 0)) (keyI id hid)
  rw [hrun, h2.has]
  obtain ⟨x, rfl, hx⟩ := rgR_inv hv
  have hx := (Prod.mk.inj hx).1
  cases hf : findR rs id with
  | none =>
    have : Maps.has D (.int .i64 id) = false := by rw [h2.has, hf]; rfl
    rw [Maps.atKey_of_not_has this] at hx
    rw [← rgD_inj hx]
  | some r =>
    rw [h2.at_ id r _ hf] at hx
    rw [← rgD_inj hx]
theorem Only.ofGrown1 {w w' : World} {b : Nat} (h : w.grownBy w' (some b)) : Only [b] w w' := ⟨h.os, h.tape, h.output, h.size, fun k hk hn => h.block k hk (fun e => hn (by simp at e; simp [e]))⟩
end Go.Proofs.Ytgckncggcdmaaaa
