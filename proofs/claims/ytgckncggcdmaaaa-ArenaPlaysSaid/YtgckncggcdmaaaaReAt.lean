/- The document's arena: where a region is, what is free. -/
import Derived.Test.YtgckncggcdmaaaaRePure
import Derived.Test.YtgckncggcdmaaaaLaw02
namespace Go.Proofs.Ytgckncggcdmaaaa
open Go.RowKit
def rrCs (l : List Rg) : List Value := l.flatMap fun r => [.int .i64 (r.id : Int), .int .i64 (r.b : Int), .int .i64 (r.n : Int)]
theorem rrCs_len (l : List Rg) : (rrCs l).length = l.length * 3 := by
  induction l with
  | nil => rfl
  | cons x t ih => show (_ :: _ :: _ :: rrCs t).length = _; rw [List.length_cons, List.length_cons, List.length_cons, ih, List.length_cons]; omega
theorem rrCs_app (l m : List Rg) : rrCs (l ++ m) = rrCs l ++ rrCs m := by unfold rrCs; rw [List.flatMap_append]
theorem rrCs_get (l : List Rg) (k : Nat) (h : k < l.length) : (rrCs l)[k * 3]? = some (.int .i64 (l[k].id : Int)) ∧ (rrCs l)[k * 3 + 1]? = some (.int .i64 (l[k].b : Int)) ∧ (rrCs l)[k * 3 + 2]? = some (.int .i64 (l[k].n : Int)) := by
  induction l generalizing k with
  | nil => simp at h
  | cons x t ih =>
    cases k with
    | zero => exact ⟨rfl, rfl, rfl⟩
    | succ k =>
      have := ih k (by simpa using h)
      rw [show (k + 1) * 3 = k * 3 + 3 by omega]
      exact this
theorem rrInfo : (Try.prog.info? 55).map (fun i => (i.zero, i.size, i.bytes)) = some (some (.agg #[.int .i64 0, .int .i64 0, .int .i64 0]), 3, 24) := by kernel_rfl
/-- The document's arena lies in block h, its cells in d, its regions in a row of the call's own. -/
structure RefAt (w : World) (B h d : Nat) (A : Ar) (l : List Rg) (most : Int) (Lv : Value) : Prop where
  head : Blk w h 49 #[.int .i64 A.size, Lv, .slice (some ⟨d, 0, none⟩) A.size A.size, .int .i64 A.last, .int .i64 A.used, .int .i64 most]
  own : w.ownsRow B 55 3 Lv l.length (rrCs l)
  rows : Blk w d 3 (ints A.cs).toArray
  perm : A.rs.Perm l
  hd : h ≠ d
  lt : h < B ∧ d < B
theorem own_off {S : List Nat} {w w' : World} {base n size : Nat} {e : TypeId} {v : Value} {xs : List Value} (h : w.ownsRow base e size v n xs) (k : Only S w w') (hS : ∀ x ∈ S, v.ownBlock ≠ some x) : w'.ownsRow base e size v n xs :=
  own_keep (P := fun k => k ∉ S) h ⟨k.os, k.tape, k.output, k.size, fun i hi hp => k.block i hi hp⟩ (fun g hg hm => hS g hm hg)
theorem RefAt.far {S : List Nat} {w w' : World} {B h d : Nat} {A : Ar} {l : List Rg} {most : Int} {Lv : Value} (q : RefAt w B h d A l most Lv) (k : Only S w w') (hS : ∀ x ∈ S, Lv.ownBlock ≠ some x) (hh : h ∉ S) (hdd : d ∉ S) : RefAt w' B h d A l most Lv :=
  ⟨q.head.only k hh, own_off q.own k hS, q.rows.only k hdd, q.perm, q.hd, q.lt⟩
theorem RefAt.below {w w' : World} {B h d : Nat} {A : Ar} {l : List Rg} {most : Int} {Lv : Value} (q : RefAt w B h d A l most Lv) (k : Below w.heap.size w w') : RefAt w' B h d A l most Lv := q.far (Only.ofBelow [] k) (by simp) (by simp) (by simp)
/-- The cells of a row of regions. -/
theorem rrs_cells {w : World} {base : Nat} {v : Value} {l : List Rg} (h : w.ownsRow base 55 3 v l.length (rrCs l)) : ∃ (ao : Option Addr) (cap : Nat), v = .slice ao l.length cap ∧ l.length ≤ cap ∧ (0 < l.length → ∃ gb, ao = some ⟨gb, 0, none⟩ ∧ base ≤ gb ∧ gb < w.heap.size ∧ ∀ k, (hk : k < l.length) → w.cell? ⟨gb, k * 3, none⟩ = some (.int .i64 (l[k].id : Int)) ∧ w.cell? ⟨gb, k * 3 + 1, none⟩ = some (.int .i64 (l[k].b : Int)) ∧ w.cell? ⟨gb, k * 3 + 2, none⟩ = some (.int .i64 (l[k].n : Int))) := by
  rcases h.2 with ⟨hv, h0⟩ | ⟨g, cap, cur, hv, hg, hh, h1, h2, h3, h4⟩
  · exact ⟨none, 0, by rw [hv, h0], by omega, fun h => by omega⟩
  · refine ⟨_, cap, hv, h1, fun _ => ⟨g, rfl, hg, (Array.getElem?_eq_some_iff.1 hh).1, fun k hk => ?_⟩⟩
    obtain ⟨a1, a2, a3⟩ := rrCs_get l k hk
    have hB : Blk w g 55 cur := hh
    rw [hB.cell, hB.cell, hB.cell]
    have e : ∀ j, j < l.length * 3 → cur[j]? = (rrCs l)[j]? := fun j hj => by
      rw [← h4, List.getElem?_take_of_lt hj, Array.getElem?_toList]
    rw [e _ (by omega), e _ (by omega), e _ (by omega)]
    exact ⟨a1, a2, a3⟩
def idxV (l : List Rg) (id : Int) : Int := match idxOf l id with | some k => (k : Int) | none => -1
theorem idxOf_step {l : List Rg} {id : Int} {k : Nat} (hk : k < l.length) (hno : ∀ j, (hj : j < k) → (l[j].id : Int) ≠ id) : ((l[k].id : Int) = id → idxOf l id = some k) := by
  intro h
  unfold idxOf
  rw [List.findIdx?_eq_some_iff_getElem]
  exact ⟨hk, by simpa using h, fun j hj => by simpa using hno j hj⟩
set_option maxHeartbeats 1000000 in
set_option maxRecDepth 100000 in
theorem rfind_c (A : Ar) (l : List Rg) (hl : l.length ≤ 1000000) (id : Int) (B h d : Nat) (most : Int) (w : World) (Lv : Value) (q : RefAt w B h d A l most Lv) : Calls Try.prog 37 #[.pointer (some ⟨h, 0, none⟩), .int .i64 id] w fun e w' => e = .returned (.int .i64 (idxV l id)) ∧ w = w' := by
  have q1 := q.head
  have q2 := q.own
  obtain ⟨ao, cap, rfl, -, hc⟩ := rrs_cells q2
  have c1 := q1.cell 1
  simp at c1
  have HC := Lib.hid hc
  clear q q1 q2 hc
  go_enter Try.func37, Try.ntmps37
  go_wp2_with fail
  go_loop [5] (fun i => ∃ k : Nat, k ≤ l.length ∧ i = .int .i64 k ∧ ∀ j, (hj : j < k) → (hjl : j < l.length) → (l[j].id : Int) ≠ id) (fun i => l.length - (intOf i).toNat)
  case atStart => exact ⟨0, by omega, rfl, fun j hj => absurd hj (by omega)⟩
  case round =>
    obtain ⟨k, hk, rfl, hno⟩ := hrel
    have HN := Lib.hid hno
    clear hno
    by_cases hlt : k < l.length
    · obtain ⟨gb, rfl, -, -, hcell⟩ := HC.out (by omega)
      have c0 := (hcell k hlt).1
      have HF := Lib.hid (idxOf_step hlt (fun j hj => HN.out j hj (by omega)) (id := id))
      have HS : Hid ((l[k].id : Int) ≠ id → ∀ j, (hj : j < k + 1) → (hjl : j < l.length) → (l[j].id : Int) ≠ id) := Lib.hid (fun hne j hj hjl => by
        by_cases e : j = k
        · subst e; exact hne
        · exact HN.out j (by omega) hjl)
      have t0 : decide (k < l.length) = true := by simpa using hlt
      have t2 : (k : Int) < (l.length : Nat) := by omega
      generalize (l[k].id : Int) = x at c0 HF HS
      clear hcell
      by_cases hx : x = id
      · have HR := Lib.hid (HF.out hx)
        have t1 : (x == id) = true := by simpa using hx
        clear HF HS hx
        go_wp2_with fail
        go_ret
        exact ⟨ret_int (by unfold idxV; rw [HR.out]), rfl⟩
      · have HR := Lib.hid (HS.out hx)
        have t1 : (x == id) = false := by simpa using hx
        clear HF HS hx
        go_wp2_with fail
        go_round
        case rel => exact ⟨k + 1, by omega, by go_num, HR.out⟩
        case measure => simp [intOf]; omega
    · have e : k = l.length := by omega
      have HR := Lib.hid (show idxOf l id = none by
        unfold idxOf
        rw [List.findIdx?_eq_none_iff]
        intro r hr
        obtain ⟨j, hj, rfl⟩ := List.getElem_of_mem hr
        have := HN.out j (by omega) hj
        simpa using this)
      subst e
      have t0 : ¬ l.length < l.length := by omega
      go_wp2_with fail
      go_ret
      exact ⟨ret_int (by unfold idxV; rw [HR.out]), rfl⟩
set_option maxHeartbeats 2000000 in
set_option maxRecDepth 100000 in
theorem risf_c (A : Ar) (l : List Rg) (hl : l.length ≤ 1000000) (hb : ∀ r ∈ l, r.b + r.n ≤ 1048576) (x : Nat) (B h d : Nat) (most : Int) (w : World) (Lv : Value) (q : RefAt w B h d A l most Lv) : Calls Try.prog 36 #[.pointer (some ⟨h, 0, none⟩), .int .i64 x] w fun e w' => e = .returned (.bool (freeB l x)) ∧ Below w.heap.size w w' := by
  have q1 := q.head
  have q2 := q.own
  obtain ⟨ao, cap, rfl, -, hc⟩ := rrs_cells q2
  have c1 := q1.cell 1
  simp at c1
  have HC := Lib.hid hc
  have HB := Lib.hid hb
  clear q q1 q2 hc hb
  go_enter Try.func36, Try.ntmps36
  go_wp2_with fail
  go_loopw [5] (fun i wr => ∃ k : Nat, k ≤ l.length ∧ i = .int .i64 k ∧ freeB (l.take k) x = true ∧ ∃ n, wr = w.drewN n) (fun i _ => l.length - (intOf i).toNat)
  case atStart => exact ⟨0, by omega, rfl, rfl, 0, rfl⟩
  case round =>
    obtain ⟨k, hk, rfl, hno, nw, rfl⟩ := hrel
    have HN := Lib.hid hno
    clear hno
    by_cases hlt : k < l.length
    · obtain ⟨gb, rfl, -, -, hcell⟩ := HC.out (by omega)
      obtain ⟨-, c2, c3⟩ := hcell k hlt
      have hbr := HB.out l[k] (List.getElem_mem hlt)
      have HT := Lib.hid (show freeB (l.take (k + 1)) x = (freeB (l.take k) x && !(decide (l[k].b ≤ x) && decide (x < l[k].b + l[k].n))) by rw [List.take_succ_eq_append_getElem hlt, freeB_snoc])
      have HF := Lib.hid (show (l[k].b ≤ x ∧ x < l[k].b + l[k].n) → freeB l x = false from fun h => by
        cases e : freeB l x with
        | false => rfl
        | true => exact absurd (show inR l[k] x from h) (freeB_iff.1 e _ (List.getElem_mem hlt)))
      generalize l[k] = r at c2 c3 hbr HT HF
      obtain ⟨ri, rb, rn⟩ := r
      simp only at c2 c3 hbr HT HF
      have t0 : decide (k < l.length) = true := by simpa using hlt
      have t2 : (k : Int) < (l.length : Nat) := by omega
      clear hcell
      by_cases h1 : rb ≤ x
      · have t3 : decide (rb ≤ x) = true := by simpa using h1
        have t4 : decide ((rb : Int) ≤ (x : Int)) = true := by simpa using h1
        by_cases h2 : x < rb + rn
        · have t5 : decide ((x : Int) < (rb : Int) + (rn : Int)) = true := by simp; omega
          have HR := Lib.hid (HF.out ⟨h1, h2⟩)
          clear HF HT h1 h2
          go_wp2_with fail
          go_quiet (fail)
          go_wp2_with fail
          go_ret
          exact ⟨ret_bool (by rw [HR.out]), below_draws (below_draws (Below.refl _ _) _) _⟩
        · have t5 : decide ((x : Int) < (rb : Int) + (rn : Int)) = false := by simp; omega
          have HR := Lib.hid (show freeB (l.take (k + 1)) x = true by rw [HT.out, HN.out, t3, show decide (x < rb + rn) = false from by simpa using h2]; rfl)
          clear HF HT h1 h2
          go_wp2_with fail
          go_quiet (fail)
          go_wp2_with fail
          go_roundw
          case rel => exact ⟨k + 1, by omega, by go_num, HR.out, _, rfl⟩
          case measure => simp [intOf]; omega
      · have t3 : decide (rb ≤ x) = false := by simpa using h1
        have t4 : decide ((rb : Int) ≤ (x : Int)) = false := by simp; omega
        have HR := Lib.hid (show freeB (l.take (k + 1)) x = true by rw [HT.out, HN.out, t3]; rfl)
        clear HF HT h1
        go_wp2_with fail
        go_quiet (fail)
        go_wp2_with fail
        go_roundw
        case rel => exact ⟨k + 1, by omega, by go_num, HR.out, _, rfl⟩
        case measure => simp [intOf]; omega
    · have e : k = l.length := by omega
      subst e
      have hn := HN.out
      rw [List.take_length] at hn
      have HR := Lib.hid hn
      have t0 : ¬ l.length < l.length := by omega
      clear hn
      go_wp2_with fail
      go_ret
      exact ⟨ret_bool (by rw [HR.out]), below_draws (Below.refl _ _) _⟩
theorem Blk.moved {w : World} {g g' : Nat} {t : TypeId} {cs : Array Value} (h : Blk w g t cs) (e : g = g') : Blk w g' t cs := e ▸ h
theorem ret2i {a b c d : Int} (h1 : a = c) (h2 : b = d) : Ending.returned (.tuple #[.int .i64 a, .int .i64 b]) = .returned (.tuple #[.int .i64 c, .int .i64 d]) := by rw [h1, h2]
/-- A cell's place. -/
def placeV (rs : List Rg) (id i : Int) : Int := match findR rs id with | none => 0 | some r => if 0 ≤ i ∧ i < r.n then (r.b : Int) + i else 0
set_option maxHeartbeats 1000000 in
set_option maxRecDepth 100000 in
theorem rat_c (A : Ar) (l : List Rg) (hl : l.length ≤ 1000000) (hb : ∀ r ∈ l, r.b + r.n ≤ 1048576) (hA : A.ok) (id i : Int) (B h d : Nat) (most : Int) (w : World) (Lv : Value) (q : RefAt w B h d A l most Lv) :
    Calls Try.prog 25 #[.pointer (some ⟨h, 0, none⟩), .int .i64 id, .int .i64 i] w fun e w' => e = .returned (.tuple #[.int .i64 (placeV A.rs id i), .int .i64 (cellE A.rs id i)]) ∧ w = w' := by
  have FC := rfind_c A l hl id B h d most w Lv q
  have q1 := q.head
  have q2 := q.own
  obtain ⟨ao, cap, rfl, -, hc⟩ := rrs_cells q2
  have c1 := q1.cell 1
  simp at c1
  have HC := Lib.hid hc
  unfold idxV at FC
  cases hi : idxOf l id with
  | none =>
    rw [hi] at FC
    have FC' := Lib.hid FC
    have hf := find_perm_none q.perm hi
    have E := Lib.hid (show placeV A.rs id i = 0 ∧ cellE A.rs id i = 7 by unfold placeV cellE; rw [hf]; exact ⟨rfl, rfl⟩)
    clear q q1 q2 hc FC hi hf
    go_enter Try.func25, Try.ntmps25
    go_wp2_with fail
    refine FC'.out.mono ?_
    rintro e w1 ⟨rfl, rfl⟩
    go_wp2_with fail
    go_ret2
    exact ⟨ret2i E.out.1.symm E.out.2.symm, rfl⟩
  | some k =>
    rw [hi] at FC
    have FC' := Lib.hid FC
    obtain ⟨hk, hf⟩ := find_perm hA q.perm hi
    obtain ⟨gb, rfl, -, -, hcell⟩ := HC.out (by omega)
    obtain ⟨-, c2, c3⟩ := hcell k hk
    have hbr := hb l[k] (List.getElem_mem hk)
    generalize l[k] = r at c2 c3 hbr hf
    obtain ⟨ri, rb, rn⟩ := r
    simp only at c2 c3 hbr
    have t2 : (k : Int) < (l.length : Nat) := by omega
    have t3 : decide ((k : Int) < 0) = false := by simp
    clear q q1 q2 hc FC hi hcell hb
    by_cases h1 : i < 0
    · have t4 : decide (i < 0) = true := by simpa using h1
      have E := Lib.hid (show placeV A.rs id i = 0 ∧ cellE A.rs id i = 2 by unfold placeV cellE; rw [hf]; simp only; rw [if_neg (by omega), if_neg (by omega)]; exact ⟨rfl, rfl⟩)
      clear hf h1
      go_enter Try.func25, Try.ntmps25
      go_wp2_with fail
      refine FC'.out.mono ?_
      rintro e w1 ⟨rfl, rfl⟩
      go_wp2_with fail
      go_ret2
      exact ⟨ret2i E.out.1.symm E.out.2.symm, rfl⟩
    · have t4 : decide (i < 0) = false := by simpa using h1
      by_cases h2 : (rn : Int) ≤ i
      · have t5 : decide ((rn : Int) ≤ i) = true := by simpa using h2
        have E := Lib.hid (show placeV A.rs id i = 0 ∧ cellE A.rs id i = 2 by unfold placeV cellE; rw [hf]; simp only; rw [if_neg (by omega), if_neg (by omega)]; exact ⟨rfl, rfl⟩)
        clear hf h1 h2
        go_enter Try.func25, Try.ntmps25
        go_wp2_with fail
        refine FC'.out.mono ?_
        rintro e w1 ⟨rfl, rfl⟩
        go_wp2_with fail
        go_ret2
        exact ⟨ret2i E.out.1.symm E.out.2.symm, rfl⟩
      · have t5 : decide ((rn : Int) ≤ i) = false := by simpa using h2
        have E := Lib.hid (show placeV A.rs id i = (rb : Int) + i ∧ cellE A.rs id i = 0 by unfold placeV cellE; rw [hf]; simp only; rw [if_pos (by omega), if_pos (by omega)]; exact ⟨rfl, rfl⟩)
        have hi0 : 0 ≤ i := by omega
        have hi1 : i < 1048576 := by omega
        clear hf h1 h2
        go_enter Try.func25, Try.ntmps25
        go_wp2_with fail
        refine FC'.out.mono ?_
        rintro e w1 ⟨rfl, rfl⟩
        go_wp2_with fail
        go_ret2
        exact ⟨ret2i E.out.1.symm E.out.2.symm, rfl⟩
set_option maxHeartbeats 1000000 in
set_option maxRecDepth 100000 in
theorem rnew_c2 (n most : Int) (w : World) : Calls Try.prog 22 #[.int .i64 n, .int .i64 most] w fun e w' => ∃ d, e = .returned (.agg #[.int .i64 (szAr n), .slice none 0 0, .slice (some ⟨d, 0, none⟩) (szAr n) (szAr n), .int .i64 0, .int .i64 0, .int .i64 most]) ∧ Blk w' d 3 (ints (List.replicate (szAr n) 0)).toArray ∧ w.heap.size ≤ d ∧ Below w.heap.size w w' := by
  have hmk := arMake (szAr n) (szAr_le n)
  by_cases h0 : n < 0
  · have e : ((szAr n : Nat) : Int) = 0 := by unfold szAr; rw [if_pos h0]; rfl
    have t1 : decide (n < 0) = true := by simpa using h0
    simp only [e] at hmk
    rw [e]
    clear e h0
    generalize szAr n = k at *
    go_enter Try.func22, Try.ntmps22
    go_wp2
    go_returns
    exact ⟨w.heap.size + 1, rfl, (Blk.made (w.alloc _) 3 (ints (List.replicate k 0)).toArray).moved (by simp), by omega, below_alloc (below_alloc (Below.refl _ _) _) _⟩
  · have t1 : decide (n < 0) = false := by simpa using h0
    by_cases h1 : 1048576 < n
    · have e : ((szAr n : Nat) : Int) = 1048576 := by unfold szAr; rw [if_neg h0, if_pos h1]; rfl
      have t2 : decide (1048576 < n) = true := by simpa using h1
      simp only [e] at hmk
      rw [e]
      clear e h0 h1
      generalize szAr n = k at *
      go_enter Try.func22, Try.ntmps22
      go_wp2
      go_returns
      exact ⟨w.heap.size + 1, rfl, (Blk.made (w.alloc _) 3 (ints (List.replicate k 0)).toArray).moved (by simp), by omega, below_alloc (below_alloc (Below.refl _ _) _) _⟩
    · have e : ((szAr n : Nat) : Int) = n := by unfold szAr; rw [if_neg h0, if_neg h1]; omega
      have t2 : decide (1048576 < n) = false := by simpa using h1
      simp only [e] at hmk
      rw [e]
      clear e h0 h1
      generalize szAr n = k at *
      go_enter Try.func22, Try.ntmps22
      go_wp2
      go_returns
      exact ⟨w.heap.size + 1, rfl, (Blk.made (w.alloc _) 3 (ints (List.replicate k 0)).toArray).moved (by simp), by omega, below_alloc (below_alloc (Below.refl _ _) _) _⟩
end Go.Proofs.Ytgckncggcdmaaaa
