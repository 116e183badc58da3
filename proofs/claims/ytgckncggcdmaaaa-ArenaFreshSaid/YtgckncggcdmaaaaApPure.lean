/- Regions by their numbers; a map of places. -/
import Derived.Test.YtgckncggcdmaaaaLaw02
namespace Go.Proofs.Ytgckncggcdmaaaa
open Go.RowKit Go.Maps
/-- All regions were handed out under the numbers ids. -/
structure IdsOk (A : Ar) (ids : List Int) : Prop where
  nodup : ids.Nodup
  all : ∀ r ∈ A.rs, (r.id : Int) ∈ ids
  bound : ∀ x ∈ ids, 1 ≤ x ∧ x ≤ A.last
theorem IdsOk.start (n : Nat) : IdsOk (Ar.new n) [] := ⟨List.nodup_nil, (fun _ hr => nomatch hr), (fun _ hx => nomatch hx)⟩
theorem IdsOk.alloc {A : Ar} {ids : List Int} (h : IdsOk A ids) (base n : Nat) : IdsOk (A.alloc base n) (ids ++ [((A.last + 1 : Nat) : Int)]) := by
  refine ⟨?_, fun r hr => ?_, fun x hx => ?_⟩
  · rw [List.nodup_append]
    refine ⟨h.nodup, by simp, fun a ha b hb => ?_⟩
    rw [List.mem_singleton] at hb
    have := h.bound a ha
    omega
  · rcases mem_insR.1 hr with rfl | hr
    · simp
    · exact List.mem_append_left _ (h.all r hr)
  · show 1 ≤ x ∧ x ≤ ((A.last + 1 : Nat) : Int)
    rcases List.mem_append.1 hx with hx | hx
    · have := h.bound x hx; omega
    · rw [List.mem_singleton] at hx; omega
theorem IdsOk.free {A : Ar} {ids : List Int} (h : IdsOk A ids) (mo : Option Mt) (id : Int) : IdsOk (freeF A mo id).1.1 ids := by
  unfold freeF
  split
  · exact h
  · exact ⟨h.nodup, fun r hr => h.all r (List.mem_filter.1 hr).1, h.bound⟩
theorem IdsOk.bare {A A' : Ar} {ids : List Int} (h : IdsOk A ids) (hb : Bare A A') : IdsOk A' ids := ⟨h.nodup, (fun r hr => by rw [hb.rs] at hr; cases hr), (fun x hx => by rw [hb.last]; exact h.bound x hx)⟩
theorem IdsOk.wf {A : Ar} {ids : List Int} (h : IdsOk A ids) (hl : A.last ≤ 1000000000) {x : Int} (hx : x ∈ ids) : (Lit.int .i64 x).wf = true := by
  have := h.bound x hx
  exact wfI (by omega) (by omega)
/-- A region is handed out, or all stays. -/
theorem allocF_cases (A : Ar) (n : Int) : (∃ base k : Nat, 1 ≤ k ∧ gapL A.rs 0 A.size k = some base ∧ n = k ∧ allocF A none n = ((A.alloc base k, none), (((A.last + 1 : Nat) : Int), 0))) ∨ ∃ c : Int, c ≠ 0 ∧ allocF A none n = ((A, none), (0, c)) := by
  unfold allocF
  by_cases h : n < 1
  · rw [if_pos h]; exact .inr ⟨1, by omega, rfl⟩
  · rw [if_neg h]
    obtain ⟨k, rfl⟩ : ∃ k : Nat, n = k := ⟨n.toNat, by omega⟩
    rw [Int.toNat_natCast]
    cases hg : gapL A.rs 0 A.size k with
    | none => exact .inr ⟨3, by omega, rfl⟩
    | some base => exact .inl ⟨base, k, by omega, hg, rfl, rfl⟩
/-- The places of a region. -/
def plOf (rs : List Rg) (id : Int) : List Nat := match findR rs id with | some r => (List.range r.n).map (r.b + ·) | none => []
def plAll (rs : List Rg) (ids : List Int) : List Nat := ids.flatMap (plOf rs)
theorem plAll_snoc (rs : List Rg) (ids : List Int) (x : Int) : plAll rs (ids ++ [x]) = plAll rs ids ++ plOf rs x := by unfold plAll; rw [List.flatMap_append]; simp
theorem plOf_len (rs : List Rg) (id : Int) : ((plOf rs id).length : Int) = max (lenV rs id) 0 := by
  unfold plOf lenV
  cases findR rs id with
  | none => rfl
  | some r => simp
theorem plAll_cons (r : Rg) (t : List Rg) (hr : ∀ s ∈ t, s.id ≠ r.id) : ∀ ids : List Int, ids.Nodup → (plAll (r :: t) ids).length = (plAll t ids).length + if (r.id : Int) ∈ ids then r.n else 0
  | [], _ => rfl
  | x :: l, hn => by
    obtain ⟨h1, h2⟩ := List.nodup_cons.1 hn
    have ih := plAll_cons r t hr l h2
    unfold plAll at ih ⊢
    rw [List.flatMap_cons, List.flatMap_cons, List.length_append, List.length_append, ih]
    by_cases e : (r.id : Int) = x
    · subst e
      have hf : findR t (r.id : Int) = none := by
        unfold findR
        rw [List.find?_eq_none]
        intro s hs
        have := hr s hs
        simp only [beq_iff_eq]; omega
      have p1 : (plOf (r :: t) (r.id : Int)).length = r.n := by
        have : findR (r :: t) (r.id : Int) = some r := by unfold findR; rw [List.find?_cons]; simp
        unfold plOf; rw [this]; simp
      have p2 : (plOf t (r.id : Int)).length = 0 := by unfold plOf; rw [hf]; rfl
      rw [p1, p2, if_neg h1, if_pos (List.mem_cons_self ..)]
      omega
    · have p1 : plOf (r :: t) x = plOf t x := by
        have : findR (r :: t) x = findR t x := by unfold findR; rw [List.find?_cons, show ((r.id : Int) == x) = false from by simpa using e]
        unfold plOf; rw [this]
      rw [p1]
      have : ((r.id : Int) ∈ x :: l) ↔ (r.id : Int) ∈ l := by rw [List.mem_cons]; exact ⟨fun h => h.resolve_left e, .inr⟩
      simp only [this]
      omega
theorem plAll_len : ∀ (rs : List Rg) (ids : List Int), (rs.map (·.id)).Nodup → ids.Nodup → (∀ r ∈ rs, (r.id : Int) ∈ ids) → (plAll rs ids).length = (rs.map (·.n)).sum
  | [], ids, _, _, _ => by
    have : plAll [] ids = [] := by unfold plAll; exact List.flatMap_eq_nil_iff.2 fun x _ => rfl
    rw [this]; rfl
  | r :: t, ids, hn, hi, ha => by
    rw [List.map_cons] at hn
    obtain ⟨h1, h2⟩ := List.nodup_cons.1 hn
    rw [plAll_cons r t (fun s hs e => h1 (List.mem_map.2 ⟨s, hs, e⟩)) ids hi, plAll_len t ids h2 hi (fun s hs => ha s (List.mem_cons_of_mem _ hs)), if_pos (ha r (List.mem_cons_self ..)), List.map_cons, List.sum_cons]
    omega
/-- A place of a region is none of another one's. -/
theorem plAll_new {A : Ar} (h : A.ok) {r : Rg} (hr : r ∈ A.rs) {ids : List Int} (hid : (r.id : Int) ∉ ids) {i : Nat} (hi : i < r.n) : r.b + i ∉ plAll A.rs ids := by
  intro hm
  obtain ⟨x, hx, hp⟩ := List.mem_flatMap.1 hm
  unfold plOf at hp
  cases hf : findR A.rs x with
  | none => rw [hf] at hp; cases hp
  | some s =>
    rw [hf] at hp
    obtain ⟨j, hj, e⟩ := List.mem_map.1 hp
    rw [List.mem_range] at hj
    obtain ⟨hs, hsx⟩ := findR_some hf
    have hne : r ≠ s := fun q => hid (by rw [q, hsx]; exact hx)
    have := pair_apart h.sorted hr hs hne
    omega
/-- A map of places that the call has made. -/
def PlAt (w : World) (b : Nat) (l : List Nat) : Prop :=
  ∃ D : DataW Unit, w.ownsMap Try.prog 3 (plainElem Try.prog 4) b l.length D ∧ Maps.Tidy D ∧ Maps.size D = l.length ∧ ∀ x : Nat, Maps.has D (.int .i64 x) = decide (x ∈ l)
theorem plBool_gen {H : Type} {P : Program} {e : TypeId} (he : P.underlying e = some .bool) {v : Value} {z : DataW H × List MemPlace} (h : plainElem P e v = some z) : ∃ a, v = .bool a ∧ z = (.lit (.bool a), []) := by
  unfold plainElem at h
  rw [he] at h
  cases v <;> simp at h
  exact ⟨_, rfl, h.symm⟩
theorem plBool_inv {v : Value} {z : DataW Unit × List MemPlace} (h : plainElem Try.prog 4 v = some z) : ∃ a, v = .bool a ∧ z = (.lit (.bool a), []) := plBool_gen Try.underlying4 h
theorem plZero (w : World) : (zeroValue 4).run Try.prog w = .ok (.bool false) w := by kernel_rfl
theorem PlAt.made (w : World) : PlAt (w.alloc (.map #[] 0)) w.heap.size [] := ⟨_, World.ownsMap_made _ _ _ _, Maps.tidy_empty, rfl, fun x => by simp [Maps.has]⟩
theorem PlAt.only {S : List Nat} {w w' : World} {b : Nat} {l : List Nat} (h : PlAt w b l) (k : Only S w w') (hb : b ∉ S) : PlAt w' b l := by
  obtain ⟨D, h1, h3⟩ := h
  exact ⟨D, own_map_only h1 k hb, h3⟩
theorem PlAt.below {w w' : World} {b : Nat} {l : List Nat} (h : PlAt w b l) (k : Below w.heap.size w w') : PlAt w' b l := h.only (Only.ofBelow [] k) (by simp)
theorem PlAt.lt {w : World} {b : Nat} {l : List Nat} (h : PlAt w b l) : b < w.heap.size := by obtain ⟨D, h1, _⟩ := h; exact h1.lt
theorem PlAt.look {w : World} {b : Nat} {l : List Nat} (h : PlAt w b l) {x : Nat} (hx : x < 2000000) (hn : x ∉ l) : (Instr.lookup 42 (.map (some b)) (.int .i64 (x : Int)) false).run Try.prog w = .ok (.bool false) w := by
  obtain ⟨D, h1, h2, h3, h4⟩ := h
  obtain ⟨v, ps, hrun, hv⟩ := h1.lookup (Maps.int_keyed Try.underlying3) Try.underlying42 (plZero w) (plainElem_bool Try.underlying4 false) (keyI x (wfI (by omega) (by omega)))
  obtain ⟨a, rfl, ha⟩ := plBool_inv hv
  rw [Maps.atKey_of_not_has (by rw [h4]; simpa using hn)] at ha
  simp at ha
  rw [hrun, ha.1]
theorem PlAt.len {w : World} {b : Nat} {l : List Nat} (h : PlAt w b l) : (Builtin.len_ #[42] 3 #[.map (some b)]).run Try.prog w = .ok (.int .i64 l.length) w := by
  obtain ⟨D, h1, h2, h3, h4⟩ := h
  rw [h1.len Try.underlying42, h3]
theorem PlAt.put {w' : World} {b x n : Nat} {l : List Nat} {D : DataW Unit} (h : w'.ownsMap Try.prog 3 (plainElem Try.prog 4) b n (D.put (.int .i64 (x : Int)) (.lit (.bool true)))) (h2 : Maps.Tidy D) (h3 : Maps.size D = l.length) (h4 : ∀ x : Nat, Maps.has D (.int .i64 x) = decide (x ∈ l)) (hn : x ∉ l) : PlAt w' b (l ++ [x]) := by
  have hs : Maps.size (D.put (.int .i64 (x : Int)) (.lit (.bool true))) = l.length + 1 := by
    rw [Maps.size_put h2, h4, h3]
    simp [hn]
  have h' := own_map_tight h
  rw [hs] at h'
  refine ⟨_, by rw [List.length_append]; exact h', h2.put (isKeyI _) _, by rw [hs, List.length_append]; rfl, fun y => ?_⟩
  by_cases e : y = x
  · subst e
    rw [Maps.has_put_same h2.isMap (isKeyI _)]
    simp
  · rw [Maps.has_put_other (by intro h; simp at h; omega), h4, decide_eq_decide]
    simp [e]
end Go.Proofs.Ytgckncggcdmaaaa
