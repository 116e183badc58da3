/- All regions are freed. -/
import Derived.Test.YtgckncggcdmaaaaArCln2
import Derived.Maps.RangeWalk
namespace Go.Proofs.Ytgckncggcdmaaaa
open Go.RowKit Go.Maps
theorem wipe_none (w : World) : Calls Try.prog 17 #[.pointer none] w fun e w' => e = .returned (.tuple #[]) ∧ w = w' := by
  go_enter Try.func17, Try.ntmps17
  go_wp2
  go_returns
  exact ⟨rfl, rfl⟩
theorem ranges_only {S : List Nat} {w w' : World} {k : TypeId} {R : Value → Option (DataW Unit × List MemPlace)} {b r n cnt : Nat} {D : DataW Unit} {left : Lit → Bool} (h : w.ranges Try.prog k R b r n D left cnt) (q : Only S w w') (hb : b ∉ S) (hr : r ∉ S) : w'.ranges Try.prog k R b r n D left cnt := by
  have h1 := h.owns.lt
  have h2 := h.lt
  obtain ⟨es, clock, since, seen, c0, hb', F, hs, hD, hr', rest⟩ := h
  exact ⟨es, clock, since, seen, c0, (q.block b h1 hb).trans hb', F, hs, hD, (q.block r h2 hr).trans hr', rest⟩
/-- The regions of left are left. -/
structure Wiped (A A' : Ar) (left : Lit → Bool) : Prop where
  ok : A'.ok
  size : A'.size = A.size
  last : A'.last = A.last
  rs : A'.rs = A.rs.filter (fun r => left (.int .i64 (r.id : Int)))
  used : A'.used ≤ A.used
theorem Wiped.start {A : Ar} {D : DataW Unit} (h : A.ok) (hD : RsOf D A.rs) : Wiped A A (Maps.has D) := by
  refine ⟨h, rfl, rfl, ?_, Nat.le_refl _⟩
  rw [List.filter_eq_self.2]
  intro r hr
  rw [hD.has, findR_of h.ids hr]
  rfl
theorem Wiped.step {A A' : Ar} {left : Lit → Bool} {D : DataW Unit} (g : Wiped A A' left) (h : A.ok) (hD : RsOf D A.rs) {x : Int} (hl : left (.int .i64 x) = true) (hh : Maps.has D (.int .i64 x) = true) :
    ∃ r, findR A'.rs x = some r ∧ Wiped A (A'.free r) (fun z => left z && !z.sameKey (.int .i64 x)) ∧ (A'.free r).used + r.n = A'.used := by
  rw [hD.has] at hh
  cases hf : findR A.rs x with
  | none => rw [hf] at hh; cases hh
  | some r =>
    obtain ⟨hr, hx⟩ := findR_some hf
    subst hx
    have hr' : r ∈ A'.rs := by rw [g.rs]; exact List.mem_filter.2 ⟨hr, hl⟩
    have hu := used_free g.ok hr'
    refine ⟨r, findR_of g.ok.ids hr', ⟨g.ok.free hr', g.size, g.last, ?_, by have := g.used; omega⟩, hu⟩
    show A'.rs.filter (· ≠ r) = _
    rw [g.rs, List.filter_filter]
    apply List.filter_congr
    intro s hs
    by_cases e : s = r
    · subst e; simp [Lit.sameKey]
    · have hne : s.id ≠ r.id := fun q => e (by
        have h1 := findR_of h.ids hs
        rw [q, findR_of h.ids hr] at h1
        injection h1 with h1
        exact h1.symm)
      have : ¬ ((s.id : Int) = (r.id : Int)) := by omega
      simp [Lit.sameKey, e, this, Bool.and_comm]
/-- A meter that was given back so many cells. -/
def backM (mo : Option Mt) (k : Nat) : Option Mt := mo.map fun m => { m with used := m.used - k }
theorem backM_zero (mo : Option Mt) : backM mo 0 = mo := by cases mo <;> simp [backM]
theorem backM_give {mo : Option Mt} {k n : Nat} (h : ∀ m, mo = some m → (k : Int) + n ≤ m.used) : (backM mo k).map (fun m => (m.give n).1) = backM mo (k + n) := by
  cases mo with
  | none => rfl
  | some m =>
    have := h m rfl
    simp only [backM, Option.map_some]
    unfold Mt.give
    rw [if_neg (by simp only; omega)]
    simp only [Option.some.injEq, Mt.mk.injEq, and_true]
    omega
/-- An arena of which all regions were freed. -/
structure Bare (A A' : Ar) : Prop where
  ok : A'.ok
  size : A'.size = A.size
  last : A'.last = A.last
  rs : A'.rs = []
set_option maxHeartbeats 2000000 in
set_option maxRecDepth 100000 in
theorem wipe_c (A : Ar) (h : A.ok) (g c b : Nat) (mp : Option Nat) (mo : Option Mt) (hmu : ∀ m, mo = some m → (A.used : Int) ≤ m.used) (w : World) (hA : ArAt w g c b (mvOf mp) A) (hM : MoAt w mp mo) (hm : ∀ gm, mp = some gm → gm ≠ g ∧ gm ≠ c ∧ gm ≠ b) :
    Calls Try.prog 17 #[.pointer (some ⟨g, 0, none⟩)] w fun e w' => e = .returned (.tuple #[]) ∧ ∃ A', Bare A A' ∧ ArAt w' g c b (mvOf mp) A' ∧ MoAt w' mp (backM mo A.used) ∧ Only ([g, c, b] ++ mp.toList) w w' := by
  obtain ⟨D, hown, hD⟩ := hA.map
  have c2 := hA.head.cell 2
  simp at c2
  have CL := AnyW.maps_Clone_owns Try.cloneRg 3 rgR b A.rs.length D w hown
  change Calls Try.prog 31 _ _ _ at CL
  have CL' := Lib.hid CL
  have FY := Lib.hid (fun (A' : Ar) (h : A'.ok) id hid r hf mo w hA hM => free_yes A' h id hid r hf g c b mp mo w hA hM hm)
  have HN := Lib.hid hm
  have HA := Lib.hid hA
  have HM := Lib.hid hM
  have H := Lib.hid h
  have HD := Lib.hid hD
  have HU := Lib.hid hmu
  have gl := hA.head.lt
  have cl := hA.rows.lt
  have bl := hA.map.lt
  have ml : ∀ gm, mp = some gm → gm < w.heap.size := fun gm e => by
    subst e
    cases mo with
    | none => exact absurd hM (by simp [MoAt])
    | some m => exact Blk.lt hM.1
  have ML := Lib.hid ml
  clear hown hA hM h hD hm CL hmu ml
  go_enter Try.func17, Try.ntmps17
  go_wp2_with fail
  refine CL'.out.mono ?_
  rintro e w1 ⟨rfl, h1, h2, h3⟩
  have HB1 := Lib.hid h3
  have hs1 : w.heap.size < w1.heap.size := h1.lt
  clear h2 h3
  go_wp2_with (at_range; refine wpList_range_own _ rfl _ 57 rfl 3 62 law_int Try.underlying57 _ w.heap.size _ _ rfl h1 ?_; intro w2 hrg2 hg2 hs2)
  have HR2 := Lib.hid hrg2
  have HB2 := Lib.hid (show Below w.heap.size w w2 from HB1.out.grown hg2 HB1.out.size (fun k e => by cases e))
  clear hrg2 hg2 h1
  go_frame
  go_loopw [2] (fun _ wr => ∃ (left : Lit → Bool) (cnt : Nat) (A' : Ar), wr.ranges Try.prog 3 rgR w.heap.size w1.heap.size A.rs.length D left cnt ∧ Wiped A A' left ∧ ArAt wr g c b (mvOf mp) A' ∧ MoAt wr mp (backM mo (A.used - A'.used)) ∧ Only ([g, c, b] ++ mp.toList) w wr)
    (fun _ wr => wr.rangeLeft w.heap.size w1.heap.size)
  case atStart =>
    exact ⟨_, _, A, HR2.out, Wiped.start H.out HD.out, HA.out.below HB2.out, by rw [Nat.sub_self, backM_zero]; exact HM.out.below HB2.out, Only.ofBelow _ HB2.out⟩
  case round =>
    obtain ⟨left, cnt, A', hrg, hW, hAr, hMr, hO⟩ := hrel
    have HW := Lib.hid hW
    have HAr := Lib.hid hAr
    have HMr := Lib.hid hMr
    have HO := Lib.hid hO
    clear hW hAr hMr hO
    go_wp2_with (at_next; refine wpList_next_ranges _ rfl _ rfl 3 law_int rgR encZ encRg (fun key kl hk => by obtain ⟨x, hx, _⟩ := Maps.keyOf_i64 Try.underlying3 hk; exact ⟨x, hx⟩) (fun v y hv => by obtain ⟨c, rfl, _⟩ := rgR_inv hv; exact ⟨c, rfl⟩) w.heap.size w1.heap.size _ _ _ _ rfl hrg ?_ ?_)
    · intro hc0 hl0
      have HL := Lib.hid hl0
      clear hl0 hrg
      go_wp2_with fail
      go_end0
      have hrs : A'.rs = [] := by rw [HW.out.rs]; exact List.filter_eq_nil_iff.2 fun r _ => by rw [HL.out]; simp
      have hu : A'.used = 0 := by unfold Ar.used; rw [hrs]; rfl
      have := HMr.out
      rw [hu, Nat.sub_zero] at this
      exact ⟨rfl, A', ⟨HW.out.ok, HW.out.size, HW.out.last, hrs⟩, HAr.out, this, HO.out⟩
    · intro x c1 c2 kl yd yp w3 cnt2 hkey hlk hv hat hrg2 hlt hg3 hs3 hen
      obtain ⟨x', ex, rfl, hwf⟩ := Maps.keyOf_i64 Try.underlying3 hkey
      obtain rfl : x = x' := encZ_inj ex
      have hhas : Maps.has D (.int .i64 x) = true := has_true_of_atKey hat
      obtain ⟨r, hf, hW2, hu2⟩ := HW.out.step H.out HD.out hlk hhas
      have hO3 := Only.ofGrown1 hg3
      have ng : g ∉ [w1.heap.size] := by simp; omega
      have nc : c ∉ [w1.heap.size] := by simp; omega
      have nb : b ∉ [w1.heap.size] := by simp; omega
      have hA3 := HAr.out.only hO3 ng nc nb
      have hM3 := HMr.out.only hO3 (fun gm e => by have := ML.out gm e; simp; omega)
      have FC := Lib.hid (FY.out A' HW.out.ok x hwf r hf _ w3 hA3 hM3)
      have HR3 := Lib.hid hrg2
      have HO3 := Lib.hid (HO.out.step hO3 (fun k hk => .inr (by simp at hk; omega)))
      have HW2 := Lib.hid hW2
      have HU2 := Lib.hid hu2
      have hEQ := Lib.hid (show (backM mo (A.used - A'.used)).map (fun m => (m.give r.n).1) = backM mo (A.used - (A'.free r).used) by
        rw [backM_give (fun m e => by have := HU.out m e; have := HW.out.used; omega)]
        congr 1
        have := HW.out.used; omega)
      have HLE := Lib.hid hrg.left_eq
      have HLT := Lib.hid hlt
      clear hg3 hs3 hat hlk hkey hv hhas hf hW2 hu2 hO3 hA3 hM3 hrg2 hrg hlt
      go_wp2_with fail
      refine FC.out.mono ?_
      rintro e w4 ⟨rfl, k1, k2, k3⟩
      rw [hEQ.out] at k2
      have K1 := Lib.hid k1
      have K2 := Lib.hid k2
      have K3 := Lib.hid k3
      clear k1 k2 k3
      go_wp2_with fail
      have hR4 := ranges_only HR3.out K3.out (by simp; exact ⟨by omega, by omega, by omega, fun e => by have := ML.out _ e; omega⟩) (by simp; exact ⟨by omega, by omega, by omega, fun e => by have := ML.out _ e; omega⟩)
      go_roundw
      case rel => exact ⟨_, cnt2, A'.free r, hR4, HW2.out, K1.out, K2.out, HO3.out.trans K3.out⟩
      case measure => rw [hR4.left_eq, HLE.out]; exact HLT.out
end Go.Proofs.Ytgckncggcdmaaaa
