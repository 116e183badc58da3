/- A drawn region whose last operations wait for all before them: the head is a region of its own. -/
import Derived.Test.YtgckncggcdmaaaaTail
import Derived.Deep.RegionHeld
namespace Go.Proofs.Ytgckncggcdmaaaa
open Go.RowKit
section
variable {P : Program} {ops ops' : Array Oper} {md : Region.Mode} {n : Nat}
/-- Behind the head: the tail, one by one. -/
def PopQ (P : Program) (ops : Array Oper) (Q : Exit → Act → World → Prop) (tl : List Oper) : Exit → Act → World → Prop
  | .normal, a, w => wpList P ops Q tl a w
  | x, a, w => Q x a w
theorem PopQ_normal (Q : Exit → Act → World → Prop) (tl : List Oper) (a : Act) (w : World) : PopQ P ops Q tl .normal a w = wpList P ops Q tl a w := rfl
theorem upon_pop {Q : Exit → Act → World → Prop} {tl : List Oper} {o : Oper} {a : Act} {K : Act → World → Prop} {r : Result Next} (h : o.upon P a K (PopQ P ops Q tl) r) : o.upon P a K Q r := by
  cases r with
  | ok n w' =>
    cases n <;> simp only [Oper.upon] at h ⊢ <;>
      first
        | exact h
        | exact Calls.mono h (fun e w'' he => by cases e <;> exact he)
  | halt x w' => cases x <;> simp only [Oper.upon] at h ⊢ <;> exact h
/-- Each operation's edges and guard lie ahead of it. -/
def aheadB (md : Region.Mode) (ops : Array Oper) (n : Nat) : Bool :=
  (List.range n).all fun i => match ops[i]? with
    | some o => o.after.all (fun e => !Region.binds md e || decide (e.on < i)) && (match o.guard with | some (j, _) => decide (j < n) | none => true)
    | none => false
theorem ahead_spec (h : aheadB md ops n = true) {i : Nat} (hi : i < n) : ∃ o, ops[i]? = some o ∧ (∀ e ∈ o.after, Region.binds md e = true → e.on < i) ∧ (∀ j b, o.guard = some (j, b) → j < n) := by
  have h1 := List.all_eq_true.1 h i (List.mem_range.2 hi)
  cases ho : ops[i]? with
  | none => rw [ho] at h1; cases h1
  | some o =>
    rw [ho] at h1
    simp only [Bool.and_eq_true] at h1
    obtain ⟨h2, h3⟩ := h1
    refine ⟨o, rfl, fun e he hb => ?_, fun j b hg => ?_⟩
    · have := Array.all_eq_true_iff_forall_mem.1 h2 e he
      simpa [hb] using this
    · rw [hg] at h3; simpa using h3
def unl : List Bool → Nat
  | [] => 0
  | b :: t => (if b then 0 else 1) + unl t
theorem unl_set : ∀ (l : List Bool) (i : Nat), l[i]? = some false → unl (l.set i true) + 1 = unl l
  | [], i, h => by simp at h
  | b :: t, 0, h => by simp at h; subst h; simp [unl]; omega
  | b :: t, i + 1, h => by
    have := unl_set t i (by simpa using h)
    simp only [List.set_cons_succ, unl]
    omega
theorem unl_zero : ∀ (l : List Bool), unl l = 0 → ∀ (i : Nat), i < l.length → l[i]? = some true
  | [], _, i, h => by simp at h
  | b :: t, hz, i, h => by
    simp only [unl] at hz
    cases b with
    | false => simp at hz
    | true =>
      cases i with
      | zero => rfl
      | succ i => simpa using unl_zero t (by simpa using hz) i (by simpa using h)
theorem unl_pos : ∀ (l : List Bool), unl l ≠ 0 → ∃ i : Nat, i < l.length ∧ l[i]? = some false
  | [], hz => by simp [unl] at hz
  | b :: t, hz => by
    cases b with
    | false => exact ⟨0, by simp, rfl⟩
    | true =>
      obtain ⟨i, hi, h⟩ := unl_pos t (by simpa [unl] using hz)
      exact ⟨i + 1, by simpa using hi, by simpa using h⟩
theorem unl_replicate : ∀ m : Nat, unl (List.replicate m false) = m
  | 0 => rfl
  | m + 1 => by rw [List.replicate_succ, unl, unl_replicate m]; simp; omega
/-- Something may come up as long as not all came up. -/
theorem ready_some (hw : aheadB md ops' n = true) {listed' : Array Bool} (hsz : listed'.size = n) : ∀ i : Nat, i < n → listed'.getD i true = false → Region.ready md ops' listed' ≠ [] := by
  intro i
  induction i using Nat.strongRecOn with
  | _ i ih =>
    intro hi hun hr
    obtain ⟨o, ho, he, _⟩ := ahead_spec hw hi
    by_cases hall : ∀ e ∈ o.after, Region.binds md e = true → listed'.getD e.on false = true
    · have : i ∈ Region.ready md ops' listed' := mem_ready.2 ⟨hun, o, ho, hall⟩
      rw [hr] at this; cases this
    · obtain ⟨e, h1⟩ := Classical.not_forall.1 hall
      obtain ⟨h2, h3⟩ := Classical.not_imp.1 h1
      obtain ⟨h4, h5⟩ := Classical.not_imp.1 h3
      have hlt := he e h2 h4
      have : listed'.getD e.on true = false := getD_in (by omega) (by simpa using h5)
      exact ih e.on hlt (by omega) this hr
theorem wpAny_pop {Q : Exit → Act → World → Prop} {tl : List Oper} {g : Nat} (hs : Region.sinkB md ops n = true) (hc : Region.chainB md ops n = true) (hn : n < ops.size) (hw : aheadB md ops' n = true) (ho : ∀ i, i < n → ops'[i]? = ops[i]?) (hsz : ops'.size = n)
    (hend : ∀ listed a w, HeadInv md ops n listed → (∀ i, i < n → listed[i]? = some true) → wpList P ops Q tl a w → wpAny P md ops Q g listed a w) :
    ∀ (f : Nat) (listed listed' : Array Bool) (a : Act) (w : World), HeadInv md ops n listed → listed'.size = n → (∀ i, i < n → listed'[i]? = listed[i]?) → unl listed'.toList = f →
      wpAny P md ops' (PopQ P ops Q tl) f listed' a w → wpAny P md ops Q (f + g) listed a w := by
  intro f
  induction f with
  | zero =>
    intro listed listed' a w inv h1 h2 h3 h
    rw [Nat.zero_add]
    exact hend listed a w inv (fun i hi => by rw [← h2 i hi, ← Array.getElem?_toList]; exact unl_zero _ h3 i (by simpa [h1] using hi)) h.2
  | succ f ih =>
    intro listed listed' a w inv h1 h2 h3 h
    rw [show f + 1 + g = (f + g) + 1 by omega]
    obtain ⟨i0, hi0, hi1⟩ := unl_pos listed'.toList (by omega)
    have hi0' : i0 < n := by simpa [h1] using hi0
    have hun' : listed'.getD i0 true = false := by
      rw [Array.getElem?_toList] at hi1
      simp [Array.getD_eq_getD_getElem?, hi1]
    have hdd : ∀ (i : Nat) (d : Bool), i < n → listed.getD i d = listed'.getD i d := fun i d hi => by
      rw [Array.getD_eq_getD_getElem?, Array.getD_eq_getD_getElem?, h2 i hi]
    have hun : listed.getD i0 true = false := by rw [hdd i0 true hi0']; exact hun'
    have hiff : ∀ i, i ∈ Region.ready md ops listed ↔ i ∈ Region.ready md ops' listed' := by
      intro i
      constructor
      · intro hr
        rcases Nat.lt_or_ge i n with hi | hi
        · obtain ⟨r1, o, r2, r3⟩ := mem_ready.1 hr
          obtain ⟨o', ho', he', _⟩ := ahead_spec hw hi
          have : o' = o := Option.some.inj (by rw [← ho', ho i hi, r2])
          subst this
          exact mem_ready.2 ⟨by rw [← hdd i true hi]; exact r1, o', ho', fun e he hb => by rw [← hdd e.on false (by have := he' e he hb; omega)]; exact r3 e he hb⟩
        · exact absurd hr (tail_waits hs hc hn inv _ i0 rfl hi0' hun i hi)
      · intro hr
        obtain ⟨r1, o, r2, r3⟩ := mem_ready.1 hr
        have hi : i < n := by rw [← hsz]; exact (Array.getElem?_eq_some_iff.1 r2).1
        obtain ⟨o', ho', he', _⟩ := ahead_spec hw hi
        have : o' = o := Option.some.inj (by rw [← ho', r2])
        subst this
        exact mem_ready.2 ⟨by rw [hdd i true hi]; exact r1, o', by rw [← ho i hi]; exact ho', fun e he hb => by rw [hdd e.on false (by have := he' e he hb; omega)]; exact r3 e he hb⟩
    have hne := ready_some hw h1 i0 hi0' hun'
    refine ⟨fun h0 => ?_, fun i hi => ?_⟩
    · refine absurd ?_ hne
      rw [List.eq_nil_iff_forall_not_mem]
      intro j hj
      have := (hiff j).2 hj
      rw [h0] at this; cases this
    · have hi' := (hiff i).1 hi
      have hop := h.2 i hi'
      obtain ⟨r1, o, r2, _⟩ := mem_ready.1 hi'
      have hin : i < n := by rw [← hsz]; exact (Array.getElem?_eq_some_iff.1 r2).1
      obtain ⟨o', ho', _, hg'⟩ := ahead_spec hw hin
      have : o' = o := Option.some.inj (by rw [← ho', r2])
      subst this
      have r2' : ops[i]? = some o' := by rw [← ho i hin]; exact ho'
      have hwant : Region.wanted o' (yielded ops a.tmps) = Region.wanted o' (yielded ops' a.tmps) := by
        unfold Region.wanted
        cases hgd : o'.guard with
        | none => rfl
        | some jb =>
          obtain ⟨j, b⟩ := jb
          have hj := hg' j b hgd
          simp only [yielded, ho j hj]
      have hnext : ∀ a' w', wpAny P md ops' (PopQ P ops Q tl) f (listed'.setIfInBounds i true) a' w' → wpAny P md ops Q (f + g) (listed.setIfInBounds i true) a' w' := fun a' w' hh => by
        have hii : i < listed'.size := by omega
        refine ih _ _ a' w' (inv.set hi hin) (by simpa using h1) (fun k hk => ?_) ?_ hh
        · by_cases e : i = k
          · subst e
            rw [Array.getElem?_setIfInBounds_self_of_lt (by omega), Array.getElem?_setIfInBounds_self_of_lt (by rw [inv.size]; omega)]
          · rw [Array.getElem?_setIfInBounds_ne e, Array.getElem?_setIfInBounds_ne e]; exact h2 k hk
        · have hf : listed'.toList[i]? = some false := by
            rw [Array.getElem?_toList, Array.getElem?_eq_getElem hii]
            rw [Array.getD_eq_getD_getElem?, Array.getElem?_eq_getElem hii] at r1
            simpa using r1
          have := unl_set _ _ hf
          rw [Array.toList_setIfInBounds]
          omega
      unfold Go.wpOp at hop ⊢
      simp only [ho', r2'] at hop ⊢
      rw [hwant]
      split
      · rename_i hwt
        rw [if_pos hwt] at hop
        refine hop.imp (fun hq => ?_) (fun ⟨q1, q2⟩ => ⟨q1, q2⟩)
        exact upon_pop (Oper.wp_mono hnext hq)
      · rename_i hwt
        rw [if_neg hwt] at hop
        exact hnext _ _ hop
end
/-- The head by a law of held regions, then the tail. -/
theorem wp_region_held_pop {P : Program} {id : Nat} {Q : Exit → Act → World → Prop} {a : Act} {w : World} {l : List Oper} {S : World → Prop} (n : Nat) (hm : P.follows .mixedOrders = true) (hn : n < l.length)
    (hB : (Region.sinkB .any l.toArray n && Region.chainB .any l.toArray n && aheadB .any (l.take n).toArray n && Region.seqB .any l.toArray (l.length - n) n (Array.replicate n true ++ Array.replicate (l.length - n) false)) = true) (hS : S w.drew)
    (h : S w.drew → wpAnyH P .any (l.take n).toArray (PopQ P l.toArray Q (l.drop n)) S n (Array.replicate n false) a w.drew) : (Code.region id l.toArray true).wp P Q a w := by
  simp only [Bool.and_eq_true] at hB
  obtain ⟨⟨⟨hs, hc⟩, hw⟩, hseq⟩ := hB
  have htl : (l.take n).toArray.size = n := by simp; omega
  refine wp_region_any hm ?_
  have hany := wpAny_of_held _ _ _ _ (h hS)
  have inv0 : HeadInv .any l.toArray n (Array.replicate l.toArray.size false) :=
    ⟨by simp, fun j oj _ hl => (by rw [getD_replicate_false] at hl; cases hl), fun t _ ht => getD_in (by simpa using ht) (getD_replicate_false _ _)⟩
  have key := wpAny_pop (P := P) (ops := l.toArray) (ops' := (l.take n).toArray) (md := .any) (n := n) (Q := Q) (tl := l.drop n) (g := l.length - n) hs hc (by simpa using hn) hw (fun i hi => by simp [hi]) htl
    (fun listed a' w' inv hall hl => by
      have e : listed = Array.replicate n true ++ Array.replicate (l.length - n) false := by
        apply Array.ext
        · rw [inv.size]; simp; omega
        · intro i h1 h2
          rcases Nat.lt_or_ge i n with hi | hi
          · have := hall i hi
            rw [Array.getElem?_eq_getElem h1] at this
            rw [Array.getElem_append_left (by simpa using hi)]
            simpa using this
          · have := inv.tail i hi (by rw [← inv.size]; exact h1)
            rw [Array.getD_eq_getD_getElem?, Array.getElem?_eq_getElem h1] at this
            rw [Array.getElem_append_right (by simpa using hi)]
            simpa using this
      subst e
      have hd : (l.drop n).length = l.length - n := by simp
      have := wpAny_of_seq (P := P) (md := .any) (Q' := Q) (l.drop n) n _ a' w' (fun j => by simp [List.getElem?_drop]) (by rw [hd]; exact hseq) hl
      rwa [hd] at this)
    n (Array.replicate l.toArray.size false) (Array.replicate n false) a w.drew inv0 (by simp) (fun i hi => by
      have : i < l.length := by omega
      simp [hi, this]) (by rw [Array.toList_replicate]; exact unl_replicate n) hany
  rw [show n + (l.length - n) = l.toArray.size by simp; omega] at key
  exact key
end Go.Proofs.Ytgckncggcdmaaaa
