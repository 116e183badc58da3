/- An arena of the call's own: each call on it, whatever it is asked. -/
import Derived.Test.YtgckncggcdmaaaaArWipe
namespace Go.Proofs.Ytgckncggcdmaaaa
open Go.RowKit Go.Maps
/-- An arena that the call has made, with its meter. -/
structure Ars (w : World) (g c b : Nat) (mp : Option Nat) (A : Ar) (mo : Option Mt) (W : World) : Prop where
  ar : ArAt W g c b (mvOf mp) A
  mo : MoAt W mp mo
  ok : A.ok
  ne : ∀ gm, mp = some gm → gm ≠ g ∧ gm ≠ c ∧ gm ≠ b
  lo : w.heap.size ≤ g ∧ w.heap.size ≤ c ∧ w.heap.size ≤ b ∧ ∀ gm, mp = some gm → w.heap.size ≤ gm
  below : Below w.heap.size w W
section
variable {w W W' : World} {g c b : Nat} {mp : Option Nat} {A A' : Ar} {mo mo' : Option Mt}
theorem Ars.keep (h : Ars w g c b mp A mo W) {S : List Nat} (k : Only S W W') (hS : ∀ x ∈ S, w.heap.size ≤ x) (hg : g ∉ S) (hc : c ∉ S) (hb : b ∉ S) (hm : ∀ gm, mp = some gm → gm ∉ S) : Ars w g c b mp A mo W' :=
  ⟨h.ar.only k hg hc hb, h.mo.only k hm, h.ok, h.ne, h.lo, ((Only.ofBelow [] h.below).step k (fun x hx => .inr (hS x hx))).below (by simp)⟩
theorem Ars.later (h : Ars w g c b mp A mo W) (k : Below W.heap.size W W') : Ars w g c b mp A mo W' := h.keep (Only.ofBelow [] k) (by simp) (by simp) (by simp) (by simp) (by simp)
theorem Ars.next (h : Ars w g c b mp A mo W) (k : Only ([g, c, b] ++ mp.toList) W W') (ha : ArAt W' g c b (mvOf mp) A') (hm : MoAt W' mp mo') (ho : A'.ok) : Ars w g c b mp A' mo' W' :=
  ⟨ha, hm, ho, h.ne, h.lo, ((Only.ofBelow [] h.below).step k (fun x hx => .inr (by
    simp at hx
    rcases hx with rfl | rfl | rfl | hx
    · exact h.lo.1
    · exact h.lo.2.1
    · exact h.lo.2.2.1
    · exact h.lo.2.2.2 x hx))).below (by simp)⟩
/-- What Alloc does. -/
def allocF (A : Ar) (mo : Option Mt) (n : Int) : (Ar × Option Mt) × (Int × Int) :=
  if n < 1 then ((A, mo), (0, 1)) else
    match gapL A.rs 0 A.size n.toNat with
    | none => ((A, mo), (0, 3))
    | some base =>
      match mo with
      | none => ((A.alloc base n.toNat, none), (((A.last + 1 : Nat) : Int), 0))
      | some m => if (m.take n).2 then ((A.alloc base n.toNat, some (m.take n).1), (((A.last + 1 : Nat) : Int), 0)) else ((A, some (m.take n).1), (0, 3))
theorem mo_some {gm : Nat} (h : MoAt W (some gm) mo) : ∃ m, mo = some m ∧ MtAt W gm m ∧ m.ok := by
  cases mo with
  | none => exact absurd h (by simp [MoAt])
  | some m => exact ⟨m, rfl, h⟩
theorem mo_none (h : MoAt W none mo) : mo = none := by
  cases mo with
  | none => rfl
  | some m => exact absurd h (by simp [MoAt])
theorem alloc_o (h : Ars w g c b mp A mo W) (hl : A.last ≤ 1000000000) (n : Int) (hn : n ≤ 9223372036854775807) :
    Calls Try.prog 11 #[.pointer (some ⟨g, 0, none⟩), .int .i64 n] W fun e w' => e = .returned (.tuple #[.int .i64 (allocF A mo n).2.1, .int .i64 (allocF A mo n).2.2]) ∧ Ars w g c b mp (allocF A mo n).1.1 (allocF A mo n).1.2 w' ∧ Only ([g, c, b] ++ mp.toList) W w' := by
  unfold allocF
  by_cases h1 : n < 1
  · rw [if_pos h1]
    refine (alloc_arg _ n h1 W).mono ?_
    rintro e w' ⟨rfl, rfl⟩
    exact ⟨rfl, h, Only.refl _ _⟩
  · rw [if_neg h1]
    obtain ⟨k, rfl⟩ : ∃ k : Nat, n = k := ⟨n.toNat, by omega⟩
    rw [Int.toNat_natCast]
    cases hg : gapL A.rs 0 A.size k with
    | none =>
      refine (alloc_full A h.ok k (by omega) (by omega) hg g c b _ W h.ar).mono ?_
      rintro e w' ⟨rfl, h2⟩
      exact ⟨rfl, h.later h2, Only.ofBelow _ h2⟩
    | some base =>
      cases mp with
      | none =>
        obtain rfl := mo_none h.mo
        refine (alloc_nil A h.ok hl k base (by omega) (by omega) hg g c b W h.ar).mono ?_
        rintro e w' ⟨rfl, h2, h3⟩
        exact ⟨rfl, h.next (h3.mono (by simp)) h2 trivial (h.ok.alloc (by omega) hg), h3.mono (by simp)⟩
      | some gm =>
        obtain ⟨m, rfl, hM, hk⟩ := mo_some h.mo
        simp only
        cases ht : (m.take k).2 with
        | false =>
          rw [if_neg (by simp)]
          refine (alloc_no A h.ok k base (by omega) (by omega) hg g c b gm m (m.take k).1 hk (by rw [← ht]) W h.ar hM).mono ?_
          rintro e w' ⟨rfl, h2, h3⟩
          have hn := h.ne gm rfl
          exact ⟨rfl, h.next (h3.mono (by simp)) (h.ar.only h3 (by simp; exact Ne.symm hn.1) (by simp; exact Ne.symm hn.2.1) (by simp; exact Ne.symm hn.2.2)) ⟨h2, Mt.take_ok hk _⟩ h.ok, h3.mono (by simp)⟩
        | true =>
          rw [if_pos rfl]
          refine (alloc_yes A h.ok hl k base (by omega) (by omega) hg g c b gm m (m.take k).1 hk (by rw [← ht]) W h.ar hM (h.ne gm rfl)).mono ?_
          rintro e w' ⟨rfl, h2, h3, h4⟩
          exact ⟨rfl, h.next (h4.mono (by simp)) h2 ⟨h3, Mt.take_ok hk _⟩ (h.ok.alloc (by omega) hg), h4.mono (by simp)⟩
theorem alloc_a (h : Ars w g c b mp A mo W) (hl : A.last ≤ 1000000000) (n : Int) (hn : n ≤ 9223372036854775807) :
    Calls Try.prog 11 #[.pointer (some ⟨g, 0, none⟩), .int .i64 n] W fun e w' => e = .returned (.tuple #[.int .i64 (allocF A mo n).2.1, .int .i64 (allocF A mo n).2.2]) ∧ Ars w g c b mp (allocF A mo n).1.1 (allocF A mo n).1.2 w' :=
  (alloc_o h hl n hn).mono fun _ _ h => ⟨h.1, h.2.1⟩
/-- What Free does. -/
def freeF (A : Ar) (mo : Option Mt) (id : Int) : (Ar × Option Mt) × Int :=
  match findR A.rs id with
  | none => ((A, mo), 7)
  | some r => ((A.free r, mo.map fun m => (m.give r.n).1), 0)
theorem free_o (h : Ars w g c b mp A mo W) (id : Int) (hid : (Lit.int .i64 id).wf = true) :
    Calls Try.prog 13 #[.pointer (some ⟨g, 0, none⟩), .int .i64 id] W fun e w' => e = .returned (.int .i64 (freeF A mo id).2) ∧ Ars w g c b mp (freeF A mo id).1.1 (freeF A mo id).1.2 w' ∧ Only ([g, c, b] ++ mp.toList) W w' := by
  unfold freeF
  cases hf : findR A.rs id with
  | none =>
    refine (free_no A id hid hf g c b _ W h.ar).mono ?_
    rintro e w' ⟨rfl, h2⟩
    exact ⟨rfl, h.later h2, Only.ofBelow _ h2⟩
  | some r =>
    refine (free_yes A h.ok id hid r hf g c b mp mo W h.ar h.mo h.ne).mono ?_
    rintro e w' ⟨rfl, h2, h3, h4⟩
    exact ⟨rfl, h.next h4 h2 h3 (h.ok.free (findR_some hf).1), h4⟩
theorem free_a (h : Ars w g c b mp A mo W) (id : Int) (hid : (Lit.int .i64 id).wf = true) :
    Calls Try.prog 13 #[.pointer (some ⟨g, 0, none⟩), .int .i64 id] W fun e w' => e = .returned (.int .i64 (freeF A mo id).2) ∧ Ars w g c b mp (freeF A mo id).1.1 (freeF A mo id).1.2 w' :=
  (free_o h id hid).mono fun _ _ h => ⟨h.1, h.2.1⟩
/-- What Set does. -/
def setF (A : Ar) (id i v : Int) : Ar :=
  match findR A.rs id with
  | none => A
  | some r => if 0 ≤ i ∧ i < r.n then A.set (r.b + i.toNat) v else A
theorem set_o (h : Ars w g c b mp A mo W) (id i v : Int) (hid : (Lit.int .i64 id).wf = true) :
    Calls Try.prog 12 #[.pointer (some ⟨g, 0, none⟩), .int .i64 id, .int .i64 i, .int .i64 v] W fun e w' => e = .returned (.int .i64 (cellE A.rs id i)) ∧ Ars w g c b mp (setF A id i v) mo w' ∧ Only ([g, c, b] ++ mp.toList) W w' := by
  by_cases hb : cellE A.rs id i = 0
  · unfold cellE at hb
    unfold setF cellE
    cases hf : findR A.rs id with
    | none => rw [hf] at hb; exact absurd hb (by simp)
    | some r =>
      rw [hf] at hb
      simp only at hb ⊢
      by_cases hi : 0 ≤ i ∧ i < r.n
      · rw [if_pos hi, if_pos hi]
        obtain ⟨k, rfl⟩ : ∃ k : Nat, i = k := ⟨i.toNat, by omega⟩
        refine (set_yes A h.ok id k v hid r hf (by omega) g c b _ W h.ar).mono ?_
        rintro e w' ⟨rfl, h2, h3⟩
        exact ⟨rfl, h.next (h3.mono (by simp)) h2 (h.mo.only h3 (fun gm e => by have := h.ne gm e; simp; omega)) (h.ok.set (findR_some hf).1 (by omega) v), h3.mono (by simp)⟩
      · rw [if_neg hi] at hb; exact absurd hb (by decide)
  · have hs : setF A id i v = A := by
      unfold cellE at hb
      unfold setF
      cases hf : findR A.rs id with
      | none => rfl
      | some r =>
        rw [hf] at hb
        simp only at hb ⊢
        by_cases hi : 0 ≤ i ∧ i < r.n
        · rw [if_pos hi] at hb; exact absurd rfl hb
        · rw [if_neg hi]
    rw [hs]
    refine (set_bad A id i v hid hb g c b _ W h.ar).mono ?_
    rintro e w' ⟨rfl, h2⟩
    exact ⟨rfl, h.later h2, Only.ofBelow _ h2⟩
theorem set_a (h : Ars w g c b mp A mo W) (id i v : Int) (hid : (Lit.int .i64 id).wf = true) :
    Calls Try.prog 12 #[.pointer (some ⟨g, 0, none⟩), .int .i64 id, .int .i64 i, .int .i64 v] W fun e w' => e = .returned (.int .i64 (cellE A.rs id i)) ∧ Ars w g c b mp (setF A id i v) mo w' :=
  (set_o h id i v hid).mono fun _ _ h => ⟨h.1, h.2.1⟩
/-- What Get tells. -/
def getF (A : Ar) (id i : Int) : Int :=
  match findR A.rs id with
  | none => 0
  | some r => if 0 ≤ i ∧ i < r.n then A.cs.getD (r.b + i.toNat) 0 else 0
theorem get_a (h : Ars w g c b mp A mo W) (id i : Int) (hid : (Lit.int .i64 id).wf = true) :
    Calls Try.prog 16 #[.pointer (some ⟨g, 0, none⟩), .int .i64 id, .int .i64 i] W fun e w' => e = .returned (.tuple #[.int .i64 (getF A id i), .int .i64 (cellE A.rs id i)]) ∧ Below W.heap.size W w' := by
  by_cases hb : cellE A.rs id i = 0
  · unfold cellE at hb
    unfold getF cellE
    cases hf : findR A.rs id with
    | none => rw [hf] at hb; exact absurd hb (by simp)
    | some r =>
      rw [hf] at hb
      simp only at hb ⊢
      by_cases hi : 0 ≤ i ∧ i < r.n
      · rw [if_pos hi, if_pos hi]
        obtain ⟨k, rfl⟩ : ∃ k : Nat, i = k := ⟨i.toNat, by omega⟩
        have hr := h.ok.each r (findR_some hf).1
        have hlen := h.ok.len
        refine (get_yes A h.ok id k hid r hf (by omega) (A.cs.getD (r.b + (k : Int).toNat) 0) ?_ g c b _ W h.ar)
        rw [List.getD_eq_getElem?_getD, Int.toNat_natCast, List.getElem?_eq_getElem (by omega)]; rfl
      · rw [if_neg hi] at hb; exact absurd hb (by decide)
  · have hs : getF A id i = 0 := by
      unfold cellE at hb
      unfold getF
      cases hf : findR A.rs id with
      | none => rfl
      | some r =>
        rw [hf] at hb
        simp only at hb ⊢
        by_cases hi : 0 ≤ i ∧ i < r.n
        · rw [if_pos hi] at hb; exact absurd rfl hb
        · rw [if_neg hi]
    rw [hs]
    exact get_bad A id i hid hb g c b _ W h.ar
theorem wipe_a (h : Ars w g c b mp A mo W) (hmu : ∀ m, mo = some m → (A.used : Int) ≤ m.used) :
    Calls Try.prog 17 #[.pointer (some ⟨g, 0, none⟩)] W fun e w' => e = .returned (.tuple #[]) ∧ ∃ A', Bare A A' ∧ Ars w g c b mp A' (backM mo A.used) w' ∧ Only ([g, c, b] ++ mp.toList) W w' := by
  refine (wipe_c A h.ok g c b mp mo hmu W h.ar h.mo h.ne).mono ?_
  rintro e w' ⟨rfl, A', h1, h2, h3, h4⟩
  exact ⟨rfl, A', h1, h.next h4 h2 h3 h1.ok, h4⟩
theorem arnew_a (mp : Option Nat) (mo : Option Mt) (n : Int) (W : World) (hw : Below w.heap.size w W) (hm : MoAt W mp mo) (hlo : ∀ gm, mp = some gm → w.heap.size ≤ gm) :
    Calls Try.prog 10 #[mvOf mp, .int .i64 n] W fun e w' => ∃ g c b, e = .returned (.pointer (some ⟨g, 0, none⟩)) ∧ W.heap.size ≤ g ∧ W.heap.size ≤ c ∧ W.heap.size ≤ b ∧ Ars w g c b mp (Ar.new (szAr n)) mo w' ∧ Below W.heap.size W w' := by
  refine (arnew_c mp n W).mono ?_
  rintro e w' ⟨g, rfl, h1, h2, h3, h4⟩
  have hs := hw.size
  have hlt : ∀ gm, mp = some gm → gm < W.heap.size := fun gm e => by
    subst e
    obtain ⟨m, rfl, hM, _⟩ := mo_some hm
    exact Blk.lt hM
  exact ⟨g, _, _, rfl, h2, Nat.le_refl _, Nat.le_succ _, ⟨h1, hm.below h4, Ar.new_ok (szAr_le n), fun gm e => by have := hlt gm e; omega, ⟨by omega, hs, by omega, hlo⟩, below_step hw h4⟩, h4⟩
end
end Go.Proofs.Ytgckncggcdmaaaa
