/- What number's walk needs: rows of 256 numbers, ranges that cover, the map of what is known. -/
import Derived.Test.YtonicgbejmghkaaDoorPtMap
import Derived.Maps.OwnSet
namespace Go.Proofs.YtonicgbejmghkaaDoor
open Go.RowKit
/-! 256 numbers -/
def fnV (f : Nat → Nat) : Array Value := ((List.range 256).map fun b => Value.int .i64 (f b : Nat)).toArray
theorem fnV_size (f : Nat → Nat) : (fnV f).size = 256 := by unfold fnV; simp
theorem fnV_at (f : Nat → Nat) {b : Nat} (hb : b < 256) : (fnV f)[b]? = some (.int .i64 (f b : Nat)) := by
  unfold fnV
  rw [List.getElem?_toArray, List.getElem?_map, List.getElem?_range hb]; rfl
theorem fnV_congr {f g : Nat → Nat} (h : ∀ b, b < 256 → f b = g b) : fnV f = fnV g := by
  unfold fnV
  congr 1
  apply List.map_congr_left
  intro b hb
  rw [h b (by simpa using hb)]
theorem fnV_set (f : Nat → Nat) (b i : Nat) : (fnV f).setIfInBounds b (.int .i64 (i : Nat)) = fnV fun x => if x = b then i else f x := by
  apply Array.ext_getElem?
  intro j
  rw [Array.getElem?_setIfInBounds]
  by_cases hj : j < 256
  · rw [fnV_at _ hj]
    by_cases e : b = j
    · subst e; rw [if_pos rfl, if_pos (by rw [fnV_size]; exact hj), fnV_at _ hj, if_pos rfl]
    · rw [if_neg e, fnV_at _ hj, if_neg (fun h => e h.symm)]
  · rw [Array.getElem?_eq_none (xs := fnV fun x => if x = b then i else f x) (by rw [fnV_size]; omega)]
    split
    · split
      · rename_i h; rw [fnV_size] at h; omega
      · rfl
    · exact Array.getElem?_eq_none (by rw [fnV_size]; omega)
theorem fnV_one (f : Nat → Nat) : (fnV f).all (·.oneCell') = true := by unfold fnV; simp [Value.oneCell']
theorem info_ai : (Tryd.prog.info? 26).map (fun i => (i.zero, i.size)) = some (some (.agg (Array.replicate 256 (.int .i64 0))), 256) := by kernel_rfl
theorem zero_fn : Array.replicate 256 (Value.int .i64 0) = fnV fun _ => 0 := by
  apply Array.ext_getElem?
  intro j
  by_cases hj : j < 256
  · rw [fnV_at _ hj, Array.getElem?_replicate, if_pos hj]; rfl
  · rw [Array.getElem?_eq_none (by rw [Array.size_replicate]; omega), Array.getElem?_eq_none (by rw [fnV_size]; omega)]
theorem build_ai (w : World) : (Instr.build 26 #[]).run Tryd.prog w = .ok (.agg (fnV fun _ => 0)) w := by
  rw [← zero_fn]; exact run_build w 26 #[] _ (by kernel_rfl)
theorem index_fn (f : Nat → Nat) {b : Nat} (hb : b < 256) (w : World) : (Instr.index 26 (.agg (fnV f)) (.int .i64 (b : Int))).run Tryd.prog w = .ok (.int .i64 (f b : Nat)) w := by
  have FX := fnV_at f hb
  generalize fnV f = FV at *
  have h1 : (0 ≤ (b : Int) ∧ (b : Int) < 256) := by omega
  have hA := Tryd.isAgg3
  simp [Instr.index, run_underlying Tryd.underlying26, asIntOf, h1, go_sem, FX, hA]
  omega
/-! Which bytes ranges cover -/
def cov (l : List (Nat × Nat)) (b : Nat) : Bool := l.any fun x => decide (x.1 ≤ b) && decide (b ≤ x.2)
theorem cov_app (l k : List (Nat × Nat)) (b : Nat) : cov (l ++ k) b = (cov l b || cov k b) := by unfold cov; simp
theorem cov_one (x : Nat × Nat) (b : Nat) : cov [x] b = (decide (x.1 ≤ b) && decide (b ≤ x.2)) := by unfold cov; simp
theorem cov_runs (p : Nat → Bool) (b : Nat) : ∀ n, cov (runs p n) b = (decide (b < n) && p b)
  | 0 => by simp [cov, runs]
  | n + 1 => by
    have ih := cov_runs p b n
    by_cases h : p n = true
    · by_cases g : n = 0 ∨ p (n - 1) = false
      · rw [runs_begin p n h g, cov_app, ih, cov_one]
        by_cases e : b = n
        · subst e; simp [h]
        · rw [show decide (b < n + 1) = decide (b < n) from by simp; omega, show (decide (n ≤ b) && decide (b ≤ n)) = false from by simp; omega, Bool.or_false]
      · obtain ⟨k, rfl⟩ : ∃ k, n = k + 1 := ⟨n - 1, by omega⟩
        have hk : p k = true := by
          cases hp : p k with
          | true => rfl
          | false => exact absurd (.inr (by simpa using hp)) g
        obtain ⟨L, lo, e, hlo⟩ := runs_last p k hk
        rw [runs_on p k lo L e h hk, cov_app, cov_one]
        rw [e, cov_app, cov_one] at ih
        simp only at ih ⊢
        by_cases eb : b = k + 1
        · subst eb
          rw [show (decide (lo ≤ k + 1) && decide (k + 1 ≤ k + 1)) = true from by simp; omega]
          simp [h]
        · rw [show decide (b < k + 1 + 1) = decide (b < k + 1) from by simp; omega, ← ih, show decide (b ≤ k + 1) = decide (b ≤ k) from by simp; omega]
    · have e0 : runs p (n + 1) = runs p n := by show (if p n = true then _ else _) = _; rw [if_neg h]
      rw [e0, ih]
      by_cases e : b = n
      · subst e; simp at h; simp [h]
      · rw [show decide (b < n + 1) = decide (b < n) from by simp; omega]
theorem cov_ranges (S : Nat → Nat) {b : Nat} (hb : b < 256) : cov (rangesS S) b = has S b := by
  unfold rangesS; rw [cov_runs]; simp [hb]
theorem cov_take {l : List (Nat × Nat)} {k : Nat} (hk : k < l.length) (b : Nat) : cov (l.take (k + 1)) b = (cov (l.take k) b || (decide (l[k].1 ≤ b) && decide (b ≤ l[k].2))) := by
  rw [List.take_succ_eq_append_getElem hk, cov_app, cov_one]
theorem runs_ends' (p : Nat → Bool) : ∀ n, ∀ x ∈ runs p n, x.1 ≤ x.2 ∧ x.2 < n
  | 0, x, h => by cases h
  | n + 1, x, h => by
    by_cases hp : p n = true
    · obtain ⟨L, lo, e, hlo⟩ := runs_last p n hp
      by_cases g : n = 0 ∨ p (n - 1) = false
      · rw [runs_begin p n hp g] at h
        rcases List.mem_append.1 h with h | h
        · have := runs_ends' p n x h; omega
        · rw [List.mem_singleton.1 h]; simp
      · obtain ⟨k, rfl⟩ : ∃ k, n = k + 1 := ⟨n - 1, by omega⟩
        have hk : p k = true := by
          cases hp : p k with
          | true => rfl
          | false => exact absurd (.inr (by simpa using hp)) g
        obtain ⟨L, lo, e, hlo⟩ := runs_last p k hk
        rw [runs_on p k lo L e hp hk] at h
        rcases List.mem_append.1 h with h | h
        · have := runs_ends' p (k + 1) x (by rw [e]; exact List.mem_append.2 (.inl h)); omega
        · rw [List.mem_singleton.1 h]; simp; omega
    · have e0 : runs p (n + 1) = runs p n := by show (if p n = true then _ else _) = _; rw [if_neg hp]
      rw [e0] at h
      have := runs_ends' p n x h; omega
/-! The map of what is known: keys, in order; each one's number is its place. -/
def NumAt (w : World) (b : Nat) (ks : List Nat) : Prop :=
  ∃ D : DataW Unit, w.ownsMap Tryd.prog 3 (plainElem Tryd.prog 3) b ks.length D ∧ Maps.Tidy D ∧ (∀ x : Nat, Maps.has D (.int .i64 x) = decide (x ∈ ks)) ∧ ∀ x : Nat, x ∈ ks → D.atKey (.int .i64 x) (.lit (.int .i64 0)) = .lit (.int .i64 (ks.idxOf x : Nat))
theorem zero_int (w : World) : (zeroValue 3).run Tryd.prog w = .ok (.int .i64 0) w := by kernel_rfl
theorem key_int (x : Nat) (hx : x < 65536) : keyOf Tryd.prog 3 (.int .i64 (x : Int)) = some (.int .i64 x) := by
  simp only [keyOf, mapKey, Tryd.underlying3]
  simp
  simp only [Lit.wf]
  rw [show IntKind.i64.min = -9223372036854775808 from by decide, show IntKind.i64.max = 9223372036854775807 from by decide, Bool.and_eq_true, decide_eq_true_iff, decide_eq_true_iff]; omega
theorem wf_i64 (x : Nat) (hx : x < 65536) : (Lit.int .i64 (x : Int)).wf = true := by
  simp only [Lit.wf]
  rw [show IntKind.i64.min = -9223372036854775808 from by decide, show IntKind.i64.max = 9223372036854775807 from by decide, Bool.and_eq_true, decide_eq_true_iff, decide_eq_true_iff]; omega
theorem key_lit (x : Nat) : WideAt.IsKeyLit (.int .i64 (x : Int)) := trivial
theorem NumAt.made (w : World) : NumAt (w.alloc (.map #[] 0)) w.heap.size [] := ⟨_, World.ownsMap_made _ _ _ _, Maps.tidy_empty, fun x => by simp [Maps.has], fun x h => by cases h⟩
theorem NumAt.only {S : List Nat} {w w' : World} {b : Nat} {l : List Nat} (h : NumAt w b l) (k : Only S w w') (hb : b ∉ S) : NumAt w' b l := by
  obtain ⟨D, ⟨es, clock, h1, h2⟩, h3⟩ := h
  exact ⟨D, ⟨es, clock, (k.block b (Array.getElem?_eq_some_iff.1 h1).1 hb).trans h1, h2⟩, h3⟩
theorem NumAt.lt {w : World} {b : Nat} {l : List Nat} (h : NumAt w b l) : b < w.heap.size := by
  obtain ⟨D, h1, _⟩ := h
  exact h1.lt
theorem NumAt.look {w : World} {b : Nat} {l : List Nat} (h : NumAt w b l) {x : Nat} (hx : x < 65536) : (Instr.lookup 58 (.map (some b)) (.int .i64 (x : Int)) true).run Tryd.prog w = .ok (.tuple #[.int .i64 (if x ∈ l then (l.idxOf x : Nat) else 0 : Nat), .bool (decide (x ∈ l))]) w := by
  obtain ⟨D, h1, h2, h3, h4⟩ := h
  obtain ⟨v, ps, hrun, hv⟩ := h1.look_ok (Maps.int_keyed Tryd.underlying3) Tryd.underlying58 (zero_int w) (plainElem_int Tryd.underlying3 (a := 0) (by decide)) (key_int x hx)
  obtain ⟨a, rfl, ha, _⟩ := plainElem_int_inv Tryd.underlying3 hv
  rw [hrun, h3]
  by_cases hm : x ∈ l
  · rw [h4 x hm] at ha
    simp at ha
    rw [if_pos hm, ← ha.1]
  · rw [Maps.atKey_of_not_has (by rw [h3]; simpa using hm)] at ha
    simp at ha
    rw [if_neg hm, ← ha.1]; rfl
theorem NumAt.put {w' : World} {b x : Nat} {l : List Nat} {D : DataW Unit} (h : w'.ownsMap Tryd.prog 3 (plainElem Tryd.prog 3) b (l.length + 1) (D.put (.int .i64 (x : Int)) (.lit (.int .i64 (l.length : Nat))))) (h2 : Maps.Tidy D) (h3 : ∀ x : Nat, Maps.has D (.int .i64 x) = decide (x ∈ l)) (h4 : ∀ x : Nat, x ∈ l → D.atKey (.int .i64 x) (.lit (.int .i64 0)) = .lit (.int .i64 (l.idxOf x : Nat))) (hn : x ∉ l) : NumAt w' b (l ++ [x]) := by
  refine ⟨_, by rw [List.length_append]; exact h, h2.put (key_lit x) _, fun y => ?_, fun y hy => ?_⟩
  · by_cases e : y = x
    · subst e
      rw [Maps.has_put_same (by obtain ⟨es, e, _⟩ := h2; exact ⟨es, e⟩) (key_lit y)]
      simp
    · rw [Maps.has_put_other (by intro h; simp at h; omega), h3, decide_eq_decide]
      simp [e]
  · by_cases e : y = x
    · subst e
      rw [Maps.atKey_put_same (by obtain ⟨es, e, _⟩ := h2; exact ⟨es, e⟩) (key_lit y), List.idxOf_append, if_neg hn]
      simp
    · have hy' : y ∈ l := by
        rcases List.mem_append.1 hy with h | h
        · exact h
        · exact absurd (List.mem_singleton.1 h) e
      rw [Maps.atKey_put_other (by intro h; simp at h; omega), h4 y hy', List.idxOf_append, if_pos hy']
/-- Where a key stands among the keys of the first bytes. -/
theorem idx_reps {r : Nat → Nat → Bool} {f : Nat → Nat} {N : Nat} (hf : ∀ a b, a < N → b < N → (f a = f b ↔ r a b = true)) {n b : Nat} (hn : n ≤ N) (hb : b < N) : ((reps r n).map f).idxOf (f b) = clsR r n b := by
  have key : ∀ l : List Nat, (∀ a ∈ l, a < N) → (l.map f).idxOf (f b) = l.findIdx fun a => r a b := by
    intro l hl
    induction l with
    | nil => rfl
    | cons a l ih =>
      rw [List.map_cons, List.idxOf_cons, List.findIdx_cons, ih (fun x hx => hl x (by simp [hx]))]
      have := hf a b (hl a (by simp)) hb
      by_cases e : f a = f b
      · rw [this.1 e, beq_iff_eq.2 e]
      · have h2 : r a b = false := by
          cases hr : r a b with
          | false => rfl
          | true => exact absurd (this.2 hr) e
        rw [h2, beq_eq_false_iff_ne.2 e]
  exact key _ fun a ha => Nat.lt_of_lt_of_le (reps_lt r n a ha) hn
theorem mem_reps {r : Nat → Nat → Bool} {f : Nat → Nat} {N : Nat} (hf : ∀ a b, a < N → b < N → (f a = f b ↔ r a b = true)) (hr : Eqv r) {n b : Nat} (hn : n ≤ N) (hb : b < N) : f b ∈ (reps r n).map f ↔ ∃ a, a < n ∧ r a b = true := by
  rw [List.mem_map]
  constructor
  · rintro ⟨a, ha, e⟩
    exact ⟨a, reps_lt r n a ha, (hf a b (Nat.lt_of_lt_of_le (reps_lt r n a ha) hn) hb).1 e⟩
  · rintro ⟨a, ha, h⟩
    obtain ⟨x, hx, hxa, _⟩ := reps_all hr.refl n a ha
    exact ⟨x, hx, (hf x b (Nat.lt_of_lt_of_le (reps_lt r n x hx) hn) hb).2 (hr.trans hxa h)⟩
end Go.Proofs.YtonicgbejmghkaaDoor
