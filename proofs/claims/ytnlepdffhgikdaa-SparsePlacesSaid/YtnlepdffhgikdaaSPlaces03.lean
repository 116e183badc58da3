/- The walk of SparsePlaces. -/
import Derived.Test.YtnlepdffhgikdaaSPlays03
import Derived.Test.YtnlepdffhgikdaaOpenInts
import Derived.Maps.OwnSet
namespace Go.Proofs.Ytnlepdffhgikdaa
open Go.RowKit
theorem plainElem_bool_inv {H : Type} {P : Program} {e : TypeId} (he : P.underlying e = some .bool) {v : Value} {z : DataW H × List MemPlace} (h : plainElem P e v = some z) : ∃ a, v = .bool a ∧ z = (.lit (.bool a), []) := by
  unfold plainElem at h
  rw [he] at h
  cases v <;> simp at h
  exact ⟨_, rfl, h.symm⟩
/-- A map that the call has made: the numbers that were met. -/
def SeenAt (w : World) (b : Nat) (l : List Nat) : Prop :=
  ∃ D : DataW Unit, w.ownsMap Try.prog 3 (plainElem Try.prog 4) b l.length D ∧ Maps.Tidy D ∧ Maps.size D = l.length ∧ ∀ x : Nat, Maps.has D (.int .i64 x) = decide (x ∈ l)
theorem zero_bool (w : World) : (zeroValue 4).run Try.prog w = .ok (.bool false) w := by kernel_rfl
theorem key_int (x : Nat) (hx : x < 65536) : keyOf Try.prog 3 (.int .i64 (x : Int)) = some (.int .i64 x) := by
  simp only [keyOf, mapKey, Try.underlying3]
  simp
  simp only [Lit.wf]
  rw [show IntKind.i64.min = -9223372036854775808 from by decide, show IntKind.i64.max = 9223372036854775807 from by decide, Bool.and_eq_true, decide_eq_true_iff, decide_eq_true_iff]; omega
theorem key_lit (x : Nat) : WideAt.IsKeyLit (.int .i64 (x : Int)) := trivial
theorem SeenAt.made (w : World) : SeenAt (w.alloc (.map #[] 0)) w.heap.size [] := ⟨_, World.ownsMap_made _ _ _ _, Maps.tidy_empty, rfl, fun x => by simp [Maps.has]⟩
theorem SeenAt.only {S : List Nat} {w w' : World} {b : Nat} {l : List Nat} (h : SeenAt w b l) (k : Only S w w') (hb : b ∉ S) : SeenAt w' b l := by
  obtain ⟨D, ⟨es, clock, h1, h2⟩, h3⟩ := h
  exact ⟨D, ⟨es, clock, (k.block b (Array.getElem?_eq_some_iff.1 h1).1 hb).trans h1, h2⟩, h3⟩
theorem SeenAt.below {w w' : World} {b : Nat} {l : List Nat} (h : SeenAt w b l) (k : Below w.heap.size w w') : SeenAt w' b l := h.only (Only.ofBelow [] k) (by simp)
theorem SeenAt.lt {w : World} {b : Nat} {l : List Nat} (h : SeenAt w b l) : b < w.heap.size := by
  obtain ⟨D, h1, _⟩ := h
  exact h1.lt
theorem SeenAt.look {w : World} {b : Nat} {l : List Nat} (h : SeenAt w b l) {x : Nat} (hx : x < 65536) (hn : x ∉ l) : (Instr.lookup 42 (.map (some b)) (.int .i64 (x : Int)) false).run Try.prog w = .ok (.bool false) w := by
  obtain ⟨D, h1, h2, h3, h4⟩ := h
  obtain ⟨v, ps, hrun, hv⟩ := h1.lookup (Maps.int_keyed Try.underlying3) Try.underlying42 (zero_bool w) (plainElem_bool Try.underlying4 false) (key_int x hx)
  obtain ⟨a, rfl, ha⟩ := plainElem_bool_inv Try.underlying4 hv
  rw [Maps.atKey_of_not_has (by rw [h4]; simpa using hn)] at ha
  simp at ha
  rw [hrun, ha.1]
theorem SeenAt.len {w : World} {b : Nat} {l : List Nat} (h : SeenAt w b l) : (Builtin.len_ #[42] 3 #[.map (some b)]).run Try.prog w = .ok (.int .i64 l.length) w := by
  obtain ⟨D, h1, h2, h3, h4⟩ := h
  rw [h1.len Try.underlying42, h3]
theorem Only.ofGrownBy {w w' : World} {b : Nat} (h : w.grownBy w' (some b)) : Only [b] w w' := ⟨h.os, h.tape, h.output, h.size, fun k hk hn => h.block k hk (fun e => hn (by simp at e; simp [e]))⟩
theorem SeenAt.put {w' : World} {b x n : Nat} {l : List Nat} {D : DataW Unit} (h : w'.ownsMap Try.prog 3 (plainElem Try.prog 4) b n (D.put (.int .i64 (x : Int)) (.lit (.bool true)))) (h2 : Maps.Tidy D) (h3 : Maps.size D = l.length) (h4 : ∀ x : Nat, Maps.has D (.int .i64 x) = decide (x ∈ l)) (hn : x ∉ l) (hl : n = l.length + 1) : SeenAt w' b (l ++ [x]) := by
  subst hl
  refine ⟨_, by rw [List.length_append]; exact h, h2.put (key_lit x) _, ?_, fun y => ?_⟩
  · rw [Maps.size_put h2, h4, h3]
    simp [hn]
  · by_cases e : y = x
    · subst e
      rw [Maps.has_put_same (by obtain ⟨es, e, _⟩ := h2; exact ⟨es, e⟩) (key_lit y)]
      simp
    · rw [Maps.has_put_other (by intro h; simp at h; omega), h4, decide_eq_decide]
      simp [e]
/-- Which numbers were asked for. -/
def Asked (n : Nat) (l : List Nat) (xs : List Int) : Prop := ∀ x : Nat, x ∈ l ↔ x < n ∧ (x : Int) ∈ xs
theorem Asked.add {n : Nat} {l : List Nat} {xs : List Int} (h : Asked n l xs) (v : Int) : Asked n (addL n l v) (xs ++ [v]) := fun x => by
  unfold addL
  cases hc : canAdd n l v with
  | true =>
    obtain ⟨k, rfl, h1, h2⟩ := canAdd_iff.1 hc
    rw [if_pos rfl, List.mem_append, h x, List.mem_append]
    simp only [List.mem_singleton]
    constructor
    · rintro (⟨a, b⟩ | e)
      · exact ⟨a, .inl b⟩
      · exact ⟨by omega, .inr (by omega)⟩
    · rintro ⟨a, b | b⟩
      · exact .inl ⟨a, b⟩
      · exact .inr (by omega)
  | false =>
    rw [if_neg (by simp), h x, List.mem_append]
    simp only [List.mem_singleton]
    constructor
    · rintro ⟨a, b⟩; exact ⟨a, .inl b⟩
    · rintro ⟨a, b | b⟩
      · exact ⟨a, b⟩
      · have hm : x ∈ l := by
          cases hx : decide (x ∈ l) with
          | true => simpa using hx
          | false =>
            have : canAdd n l v = true := canAdd_iff.2 ⟨x, b.symm, a, by simpa using hx⟩
            rw [hc] at this; cases this
        exact (h x).1 hm
theorem asked_perm {n : Nat} {l m : List Nat} {xs : List Int} (h1 : Asked n l xs) (h2 : Asked n m xs.reverse) (d1 : l.Nodup) (d2 : m.Nodup) : l.Perm m :=
  (List.perm_ext_iff_of_nodup d1 d2).2 fun x => by rw [h1 x, h2 x, List.mem_reverse]
theorem take_rev {L : List Int} {i : Nat} (hi : i < L.length) : L.reverse.take (i + 1) = L.reverse.take i ++ [L[L.length - 1 - i]'(by omega)] := by
  rw [List.take_succ_eq_append_getElem (by simpa using hi), List.getElem_reverse]
set_option maxHeartbeats 2000000 in
set_option maxRecDepth 100000 in
theorem splaces_big (n : Int) (A : Option Addr) (len cap : Nat) (h : n < 0 ∨ 300 < n ∨ 500 < len) (w : World) : Calls Try.prog 5 #[.int .i64 n, .slice A len cap] w fun e w' => e = .returned (.bool true) ∧ Below w.heap.size w w' := by
  by_cases h0 : n < 0
  · clear h
    go_enter Try.func5, Try.ntmps5
    go_wp2_with fail
    refine (awake_c _).mono ?_; rintro e w1 ⟨rfl, h1⟩
    have H1 := Lib.hid h1
    clear h1
    go_wp2_with fail
    refine (awake_c _).mono ?_; rintro e w2 ⟨rfl, h2⟩
    have H2 := Lib.hid (below_step H1.out h2)
    clear h2
    go_wp2_with fail
    go_ret
    exact ⟨rfl, H2.out⟩
  · have t1 : decide (n < 0) = false := by simpa using h0
    by_cases h3 : 300 < n
    · have t2 : decide (300 < n) = true := by simpa using h3
      clear h h0
      go_enter Try.func5, Try.ntmps5
      go_wp2_with fail
      refine (awake_c _).mono ?_; rintro e w1 ⟨rfl, h1⟩
      have H1 := Lib.hid h1
      clear h1
      go_wp2_with fail
      refine (awake_c _).mono ?_; rintro e w2 ⟨rfl, h2⟩
      have H2 := Lib.hid (below_step H1.out h2)
      clear h2
      go_wp2_with fail
      go_ret
      exact ⟨rfl, H2.out⟩
    · have t2 : decide (300 < n) = false := by simpa using h3
      have t3 : decide (500 < (len : Int)) = true := by simp; omega
      clear h h0
      go_enter Try.func5, Try.ntmps5
      go_wp2_with fail
      refine (awake_c _).mono ?_; rintro e w1 ⟨rfl, h1⟩
      have H1 := Lib.hid h1
      clear h1
      go_wp2_with fail
      refine (awake_c _).mono ?_; rintro e w2 ⟨rfl, h2⟩
      have H2 := Lib.hid (below_step H1.out h2)
      clear h2
      go_wp2_with fail
      go_ret
      exact ⟨rfl, H2.out⟩
/-- What holds while the list is gone over. -/
structure Gone2 (w wr : World) (g r g' r' : Nat) (s t : Sp) (k bm : Nat) (v : Value) (q : Nat) : Prop where
  two : Two w wr g r g' r' s t k
  list : IntsAt wr (bm + 1) v (nats s.l)
  seen : SeenAt wr bm (s.l.take q)
  hm : w.heap.size ≤ bm
  far : bm ∉ [g, r] ∧ bm ∉ [g', r'] ∧ g ∉ [bm] ∧ r ∉ [bm] ∧ g' ∉ [bm] ∧ r' ∉ [bm]
theorem Gone2.put {w wr w' : World} {g r g' r' : Nat} {s t : Sp} {k bm : Nat} {v : Value} {q q' : Nat} (h : Gone2 w wr g r g' r' s t k bm v q) (hg : wr.grownBy w' (some bm)) (hs : SeenAt w' bm (s.l.take q')) : Gone2 w w' g r g' r' s t k bm v q' := by
  have ho := Only.ofGrownBy hg
  have hb : Below w.heap.size w w' := ((Only.ofBelow [bm] h.two.one.bel).trans ho).below (fun x hx => by simp at hx; have := h.hm; omega)
  exact ⟨⟨⟨h.two.one.set.only ho h.far.2.2.1 h.far.2.2.2.1, h.two.one.ok, h.two.one.hg, h.two.one.hr, hb⟩, ⟨h.two.two.set.only ho h.far.2.2.2.2.1 h.far.2.2.2.2.2, h.two.two.ok, h.two.two.hg, h.two.two.hr, hb⟩, h.two.n1, h.two.n2, h.two.apart⟩, h.list.only ho (fun x hx => by simp at hx; omega), hs, h.hm, h.far⟩
theorem nats_get (l : List Nat) (q : Nat) (h : q < (nats l).length) : (nats l)[q] = ((l[q]'(by rw [nats_len] at h; exact h) : Nat) : Int) := List.getElem_map _
theorem srt_perm_eq {l m : List Nat} {k : Nat} (h : l.Perm m) : srt l k = srt m k := by
  unfold srt
  congr 1
  funext x
  rw [hasL_mem, hasL_mem, decide_eq_decide]
  exact h.mem_iff
set_option maxHeartbeats 2000000 in
set_option maxRecDepth 100000 in
theorem splaces_c (k : Nat) (hk : k ≤ 300) (L : List Int) (hl : L.length ≤ 500) (v : Value) (w : World) (hv : IntsAt w 0 v L) : Calls Try.prog 5 #[.int .i64 k, v] w fun e w' => e = .returned (.bool true) ∧ Below w.heap.size w w' := by
  have t1 : decide ((k : Int) < 0) = false := by simp
  have t2 : decide (300 < (k : Int)) = false := by simp; omega
  have t3 : decide (500 < (L.length : Int)) = false := by simp; omega
  have HV := Lib.hid hv
  obtain ⟨A, cap, rfl, hnil, hcell⟩ := hv
  have HC := Lib.hid hcell
  have hmm := @run_makeMap Try.prog
  clear hnil hcell
  go_enter Try.func5, Try.ntmps5
  go_wp2_with fail
  refine (awake_c _).mono ?_; rintro e w1 ⟨rfl, h1⟩
  have H1 := Lib.hid h1
  clear h1
  go_wp2_with fail
  refine (snew_c k (by omega) _).mono ?_; rintro e w2 ⟨g, rfl, h1, h2, h3, h4⟩
  have hs1 := H1.out.size
  have HH := Lib.hid (show Has w w2 g w1.heap.size (Sp.new k) from ⟨h1, Sp.new_ok (by omega), by omega, by omega, below_step H1.out h4⟩)
  have hs2 := h4.size
  generalize w1.heap.size = r at *
  clear h1 h4
  go_wp2_with fail
  refine (snew_c k (by omega) _).mono ?_; rintro e w3 ⟨g', rfl, h1, h5, h6, h4⟩
  have T0 := Lib.hid (show Two w w3 g r g' w2.heap.size (Sp.new k) (Sp.new k) k from ⟨HH.out.below h4, ⟨h1, Sp.new_ok (by omega), by omega, by omega, below_step HH.out.bel h4⟩, rfl, rfl, by simp; omega⟩)
  generalize w2.heap.size = r' at *
  clear h1 h4 HH
  go_wp2_with fail
  go_loopw [41] (fun i wr => ∃ j : Nat, j ≤ L.length ∧ i = .int .i64 j ∧ ∃ s t, Two w wr g r g' r' s t k ∧ Asked k s.l (L.take j) ∧ Asked k t.l (L.reverse.take j)) (fun i _ => 500 - (intOf i).toNat)
  case atStart => exact ⟨0, by omega, rfl, _, _, T0.out, fun x => by simp [Sp.new], fun x => by simp [Sp.new]⟩
  case round =>
    obtain ⟨j, hj, rfl, s, t, hst, ha1, ha2⟩ := hrel
    have ST := Lib.hid hst
    have Q1 := Lib.hid ha1
    have Q2 := Lib.hid ha2
    clear hst ha1 ha2
    by_cases hlt : j < L.length
    · obtain ⟨b, o, rfl, _, hb, hc⟩ := HC.out (by omega)
      have TK1 := Lib.hid (List.take_succ_eq_append_getElem hlt)
      have TK2 := Lib.hid (take_rev hlt)
      have c0 : wr.cell? ⟨b, o + j, none⟩ = some (.int .i64 L[j]) := (ST.out.one.bel.cell (p := ⟨b, o + j, none⟩) hb).trans (hc j hlt)
      have c1 : ∀ w4 : World, Below w.heap.size w w4 → w4.cell? ⟨b, o + (L.length - 1 - j), none⟩ = some (.int .i64 (L[L.length - 1 - j]'(by omega))) := fun w4 h => (h.cell (p := ⟨b, o + (L.length - 1 - j), none⟩) hb).trans (hc _ (by omega))
      have C1 := Lib.hid c1
      have t4 : decide (j < L.length) = true := by simp; omega
      have t5 : (j : Int) < (L.length : Nat) := by omega
      have t6 : (L.length : Int) - 1 - (j : Int) = ((L.length - 1 - j : Nat) : Int) := by omega
      have T6 := Lib.hid t6
      generalize L[j] = x at c0 TK1
      generalize L[L.length - 1 - j]'(by omega) = y at C1 TK2
      clear c1 hc t6
      go_wp2_with fail
      refine (sadd_c s ST.out.one.ok x g r _ ST.out.one.set).mono ?_; rintro e w4 ⟨rfl, h1, h2⟩
      have ST2 := Lib.hid (ST.out.add x h1 h2)
      have c1 := C1.out w4 ST2.out.one.bel
      have t7 : (L.length : Int) - 1 - (j : Int) < (L.length : Nat) := by omega
      have t8 : (0 : Int) ≤ (L.length : Int) - 1 - (j : Int) := by omega
      have t9 : ((L.length : Int) - 1 - (j : Int)).toNat = L.length - 1 - j := by omega
      clear h1 h2 c0
      go_wp2_with fail
      refine (sadd_c t ST2.out.two.ok y g' r' _ ST2.out.two.set).mono ?_; rintro e w5 ⟨rfl, h1, h2⟩
      have ST3 := Lib.hid (ST2.out.add' y h1 h2)
      clear h1 h2 c1
      go_wp2_with fail
      go_roundw
      case rel => exact ⟨j + 1, by omega, by go_num, _, _, ST3.out, by rw [TK1.out, Sp.add_l, ST.out.n1]; exact Q1.out.add x, by rw [TK2.out, Sp.add_l, ST.out.n2]; exact Q2.out.add y⟩
      case measure => simp [intOf]; omega
    · have e : j = L.length := by omega
      subst e
      have t4 : ¬ L.length < L.length := by omega
      have q1 := Q1.out
      have q2 := Q2.out
      rw [List.take_length] at q1
      rw [show L.length = L.reverse.length from by simp, List.take_length] at q2
      have hperm := asked_perm q1 q2 ST.out.one.ok.nodup ST.out.two.ok.nodup
      have PM := Lib.hid hperm
      have hlen : s.l.length ≤ k := by have := Sp.len_le ST.out.one.ok; rw [ST.out.n1] at this; exact this
      have LE := Lib.hid hperm.length_eq
      have SE := Lib.hid (show sortI (nats t.l) = sortI (nats s.l) by
        rw [sort_srt t.l ST.out.two.ok.nodup k (by have := ST.out.two.ok.lt; rw [ST.out.n2] at this; exact this), sort_srt s.l ST.out.one.ok.nodup k (by have := ST.out.one.ok.lt; rw [ST.out.n1] at this; exact this), srt_perm_eq hperm])
      clear q1 q2 hperm
      go_wp2_with fail
      have hlt1 := ST.out.one.lt
      have hlt2 := ST.out.two.lt
      have hle := ST.out.one.bel.size
      have G0 := Lib.hid (show Two w (wr.alloc (.map #[] 0)) g r g' r' s t k ∧ SeenAt (wr.alloc (.map #[] 0)) wr.heap.size (s.l.take 0) ∧ (wr.heap.size ∉ [g, r] ∧ wr.heap.size ∉ [g', r'] ∧ g ∉ [wr.heap.size] ∧ r ∉ [wr.heap.size] ∧ g' ∉ [wr.heap.size] ∧ r' ∉ [wr.heap.size]) ∧ (wr.alloc (.map #[] 0)).heap.size = wr.heap.size + 1 from
        ⟨ST.out.below ((Below.refl _ _).alloc (Nat.le_refl _) _), SeenAt.made _, by
          have a1 := hlt1 g (by simp)
          have a2 := hlt1 r (by simp)
          have a3 := hlt2 g' (by simp)
          have a4 := hlt2 r' (by simp)
          simp; omega, by simp⟩)
      generalize wr.heap.size = bm at *
      generalize wr.alloc (.map #[] 0) = w5 at *
      refine (slist_c s ST.out.one.ok g r _ G0.out.1.one.set).mono ?_; rintro e w6 ⟨v2, rfl, h1, h2⟩
      have I0 := h1.at
      rw [G0.out.2.2.2] at I0
      obtain ⟨A2, cap2, hv2, hnil2, hcell2⟩ := I0
      subst hv2
      have G1 := Lib.hid (show Gone2 w w6 g r g' r' s t k bm (.slice A2 (nats s.l).length cap2) 0 from ⟨G0.out.1.below h2, ⟨A2, cap2, rfl, hnil2, hcell2⟩, G0.out.2.1.below h2, hle, G0.out.2.2.1⟩)
      have NL := Lib.hid (nats_len s.l)
      have hL : (nats s.l).length ≤ 300 := by rw [nats_len]; omega
      clear h1 h2 hnil2 hcell2 G0 hlt1 hlt2 Q1 Q2
      go_wp2_with fail
      go_loopw [65] (fun i wr => ∃ q : Nat, q ≤ (nats s.l).length ∧ i = .int .i64 q ∧ Gone2 w wr g r g' r' s t k bm (.slice A2 (nats s.l).length cap2) q) (fun i _ => 500 - (intOf i).toNat)
      case atStart => exact ⟨0, by omega, rfl, G1.out⟩
      case round =>
        obtain ⟨q, hq, rfl, hst⟩ := hrel
        have GQ := Lib.hid hst
        by_cases hlq : q < (nats s.l).length
        · have hls : q < s.l.length := by have := NL.out; omega
          obtain ⟨A3, c3, e3, _, hc3⟩ := hst.list
          injection e3 with e3 _ e4
          subst e3
          subst e4
          obtain ⟨b, o, rfl, _, hb, hc⟩ := hc3 (by omega)
          have c0 := hc q hlq
          rw [nats_get s.l q hlq] at c0
          have hmem := List.getElem_mem hls
          have hx : s.l[q] < 65536 := by have := ST.out.one.ok.lt _ hmem; have := ST.out.n1; omega
          have hno : s.l[q] ∉ s.l.take q := by
            intro hm
            obtain ⟨i, hi, e⟩ := List.getElem_of_mem hm
            rw [List.getElem_take] at e
            have hi' : i < q := by rw [List.length_take] at hi; omega
            have := (List.getElem_inj ST.out.one.ok.nodup).1 e
            omega
          have hlk := hst.seen.look hx hno
          have AQ := Lib.hid (show atL s.l (q : Int) = ((s.l[q] : Nat) : Int) by unfold atL; rw [if_neg (by omega), dif_pos (by simpa using hls)]; simp)
          have CA := sat_c s ST.out.one.ok q g r _ hst.two.one.set
          rw [AQ.out] at CA
          have CH := shas_c s ST.out.one.ok (s.l[q] : Nat) g r _ hst.two.one.set
          rw [hasL_mem, decide_eq_true hmem] at CH
          have CT := shas_c t ST.out.two.ok (s.l[q] : Nat) g' r' _ hst.two.two.set
          rw [hasL_mem, decide_eq_true (PM.out.mem_iff.1 hmem)] at CT
          have CA' := Lib.hid CA
          have CH' := Lib.hid CH
          have CT' := Lib.hid CT
          obtain ⟨D, d1, d2, d3, d4⟩ := hst.seen
          have htl : (s.l.take q).length = q := by rw [List.length_take]; omega
          have TK := Lib.hid (List.take_succ_eq_append_getElem hls)
          have NO := Lib.hid hno
          generalize s.l[q] = x at *
          have D1 := Lib.hid d1
          have D2 := Lib.hid d2
          have D3 := Lib.hid d3
          have D4 := Lib.hid d4
          have KX := Lib.hid (key_int x hx)
          have TL := Lib.hid htl
          have t4 : decide (q < (nats s.l).length) = true := by simp; omega
          have t5 : (q : Int) < ((nats s.l).length : Nat) := by omega
          clear hst hc3 hc hmem hno CA CH CT d1 d2 d3 d4 htl
          go_wp2_with fail
          refine CA'.out.mono ?_; rintro e w7 ⟨rfl, rfl⟩
          go_wp2_with fail
          refine CH'.out.mono ?_; rintro e w7 ⟨rfl, rfl⟩
          go_wp2_with fail
          refine CT'.out.mono ?_; rintro e w7 ⟨rfl, rfl⟩
          go_wp2_with (at_mapUpdate; refine wpList_mapUpdate_own _ rfl _ _ _ 42 rfl 3 4 (Maps.int_keyed Try.underlying3) Try.underlying42 _ bm _ D rfl D1.out (by rw [TL.out]; unfold maxLen; omega) _ _ (.int .i64 x) rfl rfl KX.out (.lit (.bool true)) [] (plainElem_bool Try.underlying4 true) ?_)
          intro w8 h1 h2
          have G2 := Lib.hid (GQ.out.put (q' := q + 1) h2 (by rw [TK.out]; exact SeenAt.put h1 D2.out D3.out D4.out NO.out (by rw [List.length_take])))
          clear h1 h2 hlk c0
          go_wp2_with fail
          go_roundw
          case rel => exact ⟨q + 1, by omega, by go_num, G2.out⟩
          case measure => simp [intOf]; omega
        · have e : q = (nats s.l).length := by omega
          subst e
          have t5 : ¬ (nats s.l).length < (nats s.l).length := by omega
          have hsn := hst.seen
          rw [show s.l.take (nats s.l).length = s.l from by rw [nats_len, List.take_length]] at hsn
          have hln := hsn.len
          have CL1 := slen_c s g r _ hst.two.one.set
          have CL2 := slen_c t g' r' _ hst.two.two.set
          rw [← LE.out] at CL2
          have CL1' := Lib.hid CL1
          have CL2' := Lib.hid CL2
          have CS1 := Lib.hid (ssort_c s hst.two.one.ok g r _ hst.two.one.set)
          have CS2 := fun (w7 : World) (h : SpAt w7 g' r' t) => ssort_c t hst.two.two.ok g' r' w7 h
          rw [SE.out] at CS2
          have CS2' := Lib.hid CS2
          have hsl : (sortI (nats s.l)).length ≤ 1000000 := by rw [sortI_len]; omega
          have CSM := Lib.hid (fun (w4 : World) (b1 b2 : Nat) (v1 v2 : Value) (i1 : IntsAt w4 b1 v1 (sortI (nats s.l))) (i2 : IntsAt w4 b2 v2 (sortI (nats s.l))) => same_eq _ hsl b1 b2 v1 v2 w4 i1 i2)
          clear CL1 CL2 CS2 hsl hst hsn
          go_wp2_with fail
          refine CL1'.out.mono ?_; rintro e w7 ⟨rfl, rfl⟩
          go_wp2_with fail
          refine CL1'.out.mono ?_; rintro e w7 ⟨rfl, rfl⟩
          go_wp2_with fail
          refine CL2'.out.mono ?_; rintro e w7 ⟨rfl, rfl⟩
          go_wp2_with fail
          refine CS1.out.mono ?_; rintro e w7 ⟨v7, rfl, h1, h2⟩
          have B7 := Lib.hid (GQ.out.two.below h2)
          have I7 := Lib.hid h1.at
          clear h1 h2 hln
          go_wp2_with fail
          refine (CS2'.out _ B7.out.two.set).mono ?_; rintro e w8 ⟨v8, rfl, h1, h2⟩
          have B8 := Lib.hid (B7.out.below h2)
          have I8 := Lib.hid (I7.out.below h2)
          have J8 := Lib.hid h1.at
          clear h1 h2
          go_wp2_with fail
          refine (CSM.out _ _ _ _ _ I8.out J8.out).mono ?_; rintro e w9 ⟨rfl, n9, rfl⟩
          go_wp2_with fail
          go_ret
          exact ⟨rfl, below_draws B8.out.one.bel n9⟩
theorem splaces_all (n : Int) (L : List Int) (v : Value) (w : World) (hv : IntsAt w 0 v L) : Calls Try.prog 5 #[.int .i64 n, v] w fun e w' => e = .returned (.bool true) ∧ Below w.heap.size w w' := by
  by_cases h : n < 0 ∨ 300 < n ∨ 500 < L.length
  · obtain ⟨A, cap, rfl, _⟩ := hv
    exact splaces_big n A L.length cap h w
  · obtain ⟨k, rfl⟩ : ∃ k : Nat, n = k := ⟨n.toNat, by omega⟩
    exact splaces_c k (by omega) L (by omega) v w hv
end Go.Proofs.Ytnlepdffhgikdaa
