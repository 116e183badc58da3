/- The walk of ArenaApart. -/
import Derived.Test.YtgckncggcdmaaaaApPure
namespace Go.Proofs.Ytgckncggcdmaaaa
open Go.RowKit Go.Maps
set_option maxHeartbeats 1000000 in
set_option maxRecDepth 100000 in
theorem apart_big (n : Int) (A1 : Option Addr) (len1 cap1 : Nat) (h : longB n len1 = true) (w : World) : Calls Try.prog 6 #[.int .i64 n, .slice A1 len1 cap1] w fun e w' => e = .returned (.bool true) ∧ Below w.heap.size w w' := by
  have L1 := fun w => long_c n A1 len1 cap1 w
  rw [h] at L1
  have L1' := Lib.hid L1
  clear h L1
  go_enter Try.func6, Try.ntmps6
  go_wp2_with fail
  refine (awake_c _).mono ?_
  rintro e w1 ⟨rfl, h1⟩
  have H1 := Lib.hid h1
  clear h1
  go_wp2_with fail
  refine (L1'.out _).mono ?_
  rintro e w2 ⟨rfl, rfl⟩
  go_wp2_with fail
  refine (awake_c _).mono ?_
  rintro e w2 ⟨rfl, h2⟩
  have H2 := Lib.hid (below_step H1.out h2)
  clear h2
  go_wp2_with fail
  go_ret
  exact ⟨rfl, H2.out⟩
/-- The arena, and the numbers of the regions. -/
structure ApS (w W2 : World) (g c b : Nat) (A : Ar) (ids : List Int) (v : Value) (wr : World) : Prop where
  ar : Ars w g c b none A none wr
  own : wr.ownsRow W2.heap.size 3 1 v ids.length (ints ids)
  fit : IdsOk A ids
  lt : g < W2.heap.size ∧ c < W2.heap.size ∧ b < W2.heap.size
  size : W2.heap.size ≤ wr.heap.size
  le : w.heap.size ≤ W2.heap.size
section
variable {w W2 wr W' : World} {g c b : Nat} {A A' : Ar} {ids ids' : List Int} {v v' : Value}
theorem ApS.below (h : ApS w W2 g c b A ids v wr) (k : Below wr.heap.size wr W') : ApS w W2 g c b A ids v W' := ⟨h.ar.later k, own_below h.own k, h.fit, h.lt, Nat.le_trans h.size k.size, h.le⟩
theorem ApS.op (h : ApS w W2 g c b A ids v wr) (ha : Ars w g c b none A' none W') (k : Only ([g, c, b] ++ (none : Option Nat).toList) wr W') (hf : IdsOk A' ids) : ApS w W2 g c b A' ids v W' :=
  ⟨ha, own_only h.own k (by intro x hx; have := h.lt; simp at hx; omega), hf, h.lt, Nat.le_trans h.size k.size, h.le⟩
theorem ApS.push (har : Ars w g c b none A none wr) (hv : wr.ownsRow W2.heap.size 3 1 v ids.length (ints ids)) (hl : g < W2.heap.size ∧ c < W2.heap.size ∧ b < W2.heap.size) (hs : W2.heap.size ≤ wr.heap.size) (hle : w.heap.size ≤ W2.heap.size) (hown : W'.ownsRow W2.heap.size 3 1 v' ids'.length (ints ids')) (hgr : wr.grownBy W' v.ownBlock) (hf : IdsOk A ids') : ApS w W2 g c b A ids' v' W' := by
  have ho : Only (v.ownBlock.toList) wr W' := ⟨hgr.os, hgr.tape, hgr.output, hgr.size, fun k hk hn => hgr.block k hk (fun e => hn (by rw [← e]; simp))⟩
  have hb : ∀ x ∈ v.ownBlock.toList, W2.heap.size ≤ x := by
    intro x hx
    rw [Option.mem_toList] at hx
    exact (hv.lt x hx).1
  exact ⟨har.keep ho (fun x hx => Nat.le_trans hle (hb x hx)) (fun hm => by have := hb g hm; omega) (fun hm => by have := hb c hm; omega) (fun hm => by have := hb b hm; omega) (by simp), hown, hf, hl, Nat.le_trans hs hgr.size, hle⟩
end
theorem apInfo : (Try.prog.info? 3).map (fun i => (i.zero, i.size, i.bytes)) = some (some (.int .i64 0), 1, 8) := by kernel_rfl
theorem plAll_take (rs : List Rg) (ids : List Int) (m : Nat) : (plAll rs (ids.take m)).length ≤ (plAll rs ids).length := by
  have : plAll rs ids = plAll rs (ids.take m) ++ plAll rs (ids.drop m) := by unfold plAll; rw [← List.flatMap_append, List.take_append_drop]
  rw [this, List.length_append]; omega
theorem ids_get {w : World} {base : Nat} {v : Value} {l : List Int} (h : w.ownsRow base 3 1 v l.length (ints l)) : ∃ (ao : Option Addr) (cap : Nat), v = .slice ao l.length cap ∧ (0 < l.length → ∃ gb, ao = some ⟨gb, 0, none⟩ ∧ base ≤ gb ∧ gb < w.heap.size ∧ ∀ k, (hk : k < l.length) → w.cell? ⟨gb, k, none⟩ = some (.int .i64 l[k])) := by
  rcases h.2 with ⟨hv, h0⟩ | ⟨g, cap, cur, hv, hg, hh, h1, h2, h3, h4⟩
  · exact ⟨none, 0, by rw [hv, h0], fun h => by omega⟩
  · refine ⟨_, cap, hv, fun _ => ⟨g, rfl, hg, (Array.getElem?_eq_some_iff.1 hh).1, fun k hk => ?_⟩⟩
    have hB : Blk w g 3 cur := hh
    rw [hB.cell]
    have e : cur[k]? = (ints l)[k]? := by rw [← h4, List.getElem?_take_of_lt (by omega), Array.getElem?_toList]
    rw [e]
    unfold ints
    rw [List.getElem?_map, List.getElem?_eq_getElem hk]; rfl
set_option maxHeartbeats 16000000 in
set_option maxRecDepth 100000 in
theorem apart_main (n : Int) (A1 : Option Addr) (len1 cap1 : Nat) (X1 : Nat → Nat → Int) (w : World) (hb1 : longB n len1 = false)
    (hS1 : 0 < len1 → ∃ b o, A1 = some ⟨b, o, none⟩ ∧ b < w.heap.size ∧ ∀ i, i < len1 → ∀ j, j < 4 → w.cell? ⟨b, o + (i * 4 + j), none⟩ = some (.int .i64 (X1 i j)))
    (hX1 : ∀ i, i < len1 → ∀ j, j < 4 → (Lit.int .i64 (X1 i j)).wf = true) :
    Calls Try.prog 6 #[.int .i64 n, .slice A1 len1 cap1] w fun e w' => e = .returned (.bool true) ∧ Below w.heap.size w w' := by
  have L1 := fun w => long_c n A1 len1 cap1 w
  rw [hb1] at L1
  have L1' := Lib.hid L1
  have hl1 : len1 ≤ 200 := by unfold longB at hb1; simp at hb1; omega
  have hn1 : n ≤ 300 := by unfold longB at hb1; simp at hb1; omega
  have hSz : ((szAr n : Nat) : Int) = max n 0 := by unfold szAr; (repeat' split) <;> omega
  have SZ := Lib.hid hSz
  have C1 := Lib.hid hS1
  have X1W := Lib.hid hX1
  have hmm := @run_makeMap Try.prog
  obtain ⟨i0, hi, hz0, hz1, hz2⟩ := info_parts apInfo
  clear L1 hb1 hS1 hX1 hSz
  go_enter Try.func6, Try.ntmps6
  go_wp2_with fail
  refine (awake_c _).mono ?_
  rintro e w1 ⟨rfl, h1⟩
  have H1 := Lib.hid h1
  clear h1
  go_wp2_with fail
  refine (L1'.out _).mono ?_
  rintro e w2 ⟨rfl, rfl⟩
  go_wp2_with fail
  refine (arnew_a (w := w) none none n w1 H1.out trivial (by simp)).mono ?_
  rintro e w2 ⟨g, c, b, rfl, m1, m2, m3, a1, k1⟩
  have S0 := Lib.hid (show ApS w w2 g c b (Ar.new (szAr n)) [] (.slice none 0 0) w2 from ⟨a1, World.ownsRow_nil _ _ _ _, IdsOk.start _, ⟨a1.ar.head.lt, a1.ar.rows.lt, a1.ar.map.lt⟩, Nat.le_refl _, Nat.le_trans H1.out.size k1.size⟩)
  clear a1 k1 m1 m2 m3
  go_wp2_with fail
  go_loopw [6, 29] (fun v i wr => ∃ (k : Nat) (A : Ar) (ids : List Int), k ≤ len1 ∧ i = .int .i64 k ∧ ApS w w2 g c b A ids v wr ∧ A.last ≤ k ∧ ids.length ≤ k ∧ A.size = szAr n) (fun _ i _ => len1 - (intOf i).toNat)
  case atStart => exact ⟨0, _, [], by omega, rfl, S0.out, Nat.zero_le _, Nat.zero_le _, rfl⟩
  case round =>
    obtain ⟨k, A, ids, hk, rfl, hS, hA0, hI0, hsz⟩ := hrel
    have S1 := Lib.hid hS
    have HSZ := Lib.hid hsz
    clear hS hsz
    by_cases hlt : k < len1
    · obtain ⟨bo, oo, rfl, hbo, hcell⟩ := C1.out (by omega)
      have d0 : wr.cell? ⟨bo, oo + k * 4, none⟩ = some (.int .i64 (X1 k 0)) := (S1.out.ar.below.cell (p := ⟨bo, _, none⟩) hbo).trans (hcell k hlt 0 (by omega))
      have d1 : wr.cell? ⟨bo, oo + k * 4 + 1, none⟩ = some (.int .i64 (X1 k 1)) := (S1.out.ar.below.cell (p := ⟨bo, _, none⟩) hbo).trans (hcell k hlt 1 (by omega))
      have d2 : wr.cell? ⟨bo, oo + k * 4 + 2, none⟩ = some (.int .i64 (X1 k 2)) := (S1.out.ar.below.cell (p := ⟨bo, _, none⟩) hbo).trans (hcell k hlt 2 (by omega))
      have d3 : wr.cell? ⟨bo, oo + k * 4 + 3, none⟩ = some (.int .i64 (X1 k 3)) := (S1.out.ar.below.cell (p := ⟨bo, _, none⟩) hbo).trans (hcell k hlt 3 (by omega))
      have W1 := Lib.hid (X1W.out k hlt 1 (by omega))
      have W2 := Lib.hid (wf_le (X1W.out k hlt 2 (by omega)))
      have t0 : decide (k < len1) = true := by simp; omega
      have t2 : (k : Int) < (len1 : Nat) := by omega
      clear hcell
      go_upto_region 8 with fail
      have B2 := Lib.hid (Blk.made wr 28 #[.int .i64 (X1 k 0), .int .i64 (X1 k 1), .int .i64 (X1 k 2), .int .i64 (X1 k 3)])
      have S2 := Lib.hid (S1.out.below (below_alloc (Below.refl _ wr) (.cells #[.int .i64 (X1 k 0), .int .i64 (X1 k 1), .int .i64 (X1 k 2), .int .i64 (X1 k 3)] 28)))
      have s4 := S1.out.size
      clear d0 d1 d2 d3 S1
      generalize wr.alloc (.cells #[.int .i64 (X1 k 0), .int .i64 (X1 k 1), .int .i64 (X1 k 2), .int .i64 (X1 k 3)] 28) = x2 at *
      generalize wr.heap.size = bx at *
      have f0 := B2.out.cell 0
      have f1 := B2.out.cell 1
      have f2 := B2.out.cell 2
      simp at f0 f1 f2
      generalize X1 k 0 = kd at *
      generalize X1 k 1 = xid at *
      generalize X1 k 2 = xn at *
      go_upto_block 2 with fail
      go_cut [6, 9, 10] from 35 to 59 (fun v' _ _ wx => ∃ (A' : Ar) (ids' : List Int), ApS w w2 g c b A' ids' v' wx ∧ A'.last ≤ k + 1 ∧ ids'.length ≤ k + 1 ∧ A'.size = szAr n)
      case first =>
        by_cases h1 : kd = 1
        · subst h1
          go_wp2_with fail
          refine (alloc_o S2.out.ar (by omega) xn W2.out).mono ?_
          rintro e x3 ⟨rfl, hA, hO⟩
          rcases allocF_cases A xn with ⟨base, q, hq1, hq2, hq3, hq4⟩ | ⟨cc, hc1, hc2⟩
          · rw [hq4] at hA ⊢
            have hown := own_only S2.out.own hO (by intro x hx; have := S2.out.lt; simp at hx; omega)
            have HOW := Lib.hid hown
            have HAA := Lib.hid hA
            have HO := Lib.hid hO
            have s3 : w2.heap.size ≤ x3.heap.size := Nat.le_trans S2.out.size hO.size
            clear hA hO hq3 hq4
            go_wp2_with (at_builtin; refine wpList_append_own _ rfl _ _ 41 rfl w2.heap.size 3 i0 (.int .i64 0) 1 8 Try.underlying41 hi hz0 hz1 hz2 rfl (by decide) _ _ _ rfl (hown.alloc _) ⟨x3.heap.size, 0, none⟩ 1 1 [.int .i64 ((A.last + 1 : Nat) : Int)] rfl rfl ?c1 ?c2 ?c3 ?c4 ?c5 ?_)
            case c1 => exact cell_one_new _ _ _
            case c2 => intro u hu; simp at hu; subst hu; rfl
            case c3 => unfold maxLen; omega
            case c4 => omega
            case c5 => simp; omega
            intro v' x4 hown4 hgr4 _
            have S4 := Lib.hid (show ApS w w2 g c b (A.alloc base q) (ids ++ [((A.last + 1 : Nat) : Int)]) v' x4 from by
              refine ApS.push (wr := x3.alloc (.cells #[.int .i64 ((A.last + 1 : Nat) : Int)] 3)) (v := u6) (ids := ids) (HAA.out.later (below_alloc (Below.refl _ _) _)) (hown.alloc _) S2.out.lt (by simp; omega) S2.out.le ?_ hgr4 (S2.out.fit.alloc base q)
              rw [List.length_append, ints_app]; exact hown4)
            clear hown4 hgr4 hown
            go_wp2_with fail
            go_meet
            exact ⟨_, _, S4.out, by show A.last + 1 ≤ k + 1; omega, by simp; omega, HSZ.out⟩
          · rw [hc2] at hA ⊢
            have t5 : (cc == 0) = false := by simpa using hc1
            have S3 := Lib.hid (S2.out.op hA hO S2.out.fit)
            clear hA hO hc1 hc2
            go_wp2_with fail
            go_meet
            exact ⟨_, _, S3.out, by omega, by omega, HSZ.out⟩
        · by_cases h2 : kd = 2
          · subst h2
            go_wp2_with fail
            refine (free_o S2.out.ar xid W1.out).mono ?_
            rintro e x3 ⟨rfl, hA, hO⟩
            rw [freeF_none] at hA
            have S3 := Lib.hid (S2.out.op hA hO (S2.out.fit.free none xid))
            clear hA hO
            go_wp2_with fail
            go_meet
            exact ⟨_, _, S3.out, by rw [freeF_last]; omega, by omega, by rw [freeF_size]; exact HSZ.out⟩
          · by_cases h5 : kd = 5
            · subst h5
              go_wp2_with fail
              refine (wipe_a S2.out.ar (by simp)).mono ?_
              rintro e x3 ⟨rfl, A', hBA, hA, hO⟩
              have S3 := Lib.hid (S2.out.op hA hO (S2.out.fit.bare hBA))
              have HBA := Lib.hid hBA
              clear hA hO hBA
              go_wp2_with fail
              go_meet
              exact ⟨_, _, S3.out, by rw [HBA.out.last]; omega, by omega, by rw [HBA.out.size]; exact HSZ.out⟩
            · have t1 : (kd == 1) = false := by simpa using h1
              have t3 : (kd == 2) = false := by simpa using h2
              have t4 : (kd == 5) = false := by simpa using h5
              clear h1 h2 h5
              go_wp2_with fail
              go_meet
              exact ⟨_, _, S2.out, by omega, by omega, HSZ.out⟩
      case rest =>
        obtain ⟨A', ids', hS, hA1, hI1, hsz⟩ := hcut
        rename World => x3
        have S3 := Lib.hid hS
        have HSZ := Lib.hid hsz
        clear hS hsz S2 B2 f0 f1 f2
        obtain ⟨ao, cap, hv, hc⟩ := ids_get S3.out.own
        subst hv
        have HC := Lib.hid hc
        have PM := Lib.hid (PlAt.made x3)
        have bx4 := below_alloc (Below.refl x3.heap.size x3) (.map #[] 0)
        have BX4 := Lib.hid bx4
        clear hc bx4
        go_wp2_with fail
        go_loopw [63] (fun i wq => ∃ m : Nat, m ≤ ids'.length ∧ i = .int .i64 m ∧ PlAt wq x3.heap.size (plAll A'.rs (ids'.take m)) ∧ Below x3.heap.size x3 wq) (fun i _ => ids'.length - (intOf i).toNat)
        case atStart => exact ⟨0, by omega, rfl, PM.out, BX4.out⟩
        case round =>
          rename World => wq
          obtain ⟨m, hm, rfl, hP, hB⟩ := hrel
          have PQ := Lib.hid hP
          have BQ := Lib.hid hB
          have sq := hB.size
          clear hP hB
          by_cases hmt : m < ids'.length
          · obtain ⟨gb, rfl, hg1, hg2, hgc⟩ := HC.out (by omega)
            have e0 : wq.cell? ⟨gb, m, none⟩ = some (.int .i64 ids'[m]) := ((bcell BQ.out).1 gb m hg2).trans (hgc m hmt)
            have TK := Lib.hid (List.take_succ_eq_append_getElem hmt)
            have NI : Hid (ids'[m] ∉ ids'.take m) := Lib.hid (by
              intro hx
              have hnd := S3.out.fit.nodup
              obtain ⟨j, hj, e⟩ := List.getElem_of_mem hx
              rw [List.length_take] at hj
              rw [List.getElem_take] at e
              exact (List.pairwise_iff_getElem.1 hnd j m (by omega) hmt (by omega)) e)
            have WX := Lib.hid (S3.out.fit.wf (by omega) (List.getElem_mem hmt))
            generalize ids'[m] = x at e0 TK NI WX
            have t6 : decide (m < ids'.length) = true := by simpa using hmt
            have t7 : (m : Int) < (ids'.length : Nat) := by omega
            clear hgc
            go_wp2_with fail
            refine (base_c A' x WX.out g c b _ wq (S3.out.below BQ.out).ar.ar).mono ?_
            rintro e y1 ⟨rfl, k1⟩
            have BQ1 := Lib.hid (below_step BQ.out k1)
            have PQ1 := Lib.hid (PQ.out.below k1)
            clear k1
            go_wp2_with fail
            refine (len_c A' x WX.out g c b _ y1 (S3.out.below BQ1.out).ar.ar).mono ?_
            rintro e y2 ⟨rfl, k1⟩
            have BQ2 := Lib.hid (below_step BQ1.out k1)
            have PQ2 := Lib.hid (PQ1.out.below k1)
            clear k1 PQ1 BQ1
            cases hf : findR A'.rs x with
            | none =>
              rw [show baseV A'.rs x = -1 by unfold baseV; rw [hf], show lenV A'.rs x = -1 by unfold lenV; rw [hf]]
              have PE := Lib.hid (show plAll A'.rs (ids'.take (m + 1)) = plAll A'.rs (ids'.take m) by rw [TK.out, plAll_snoc]; unfold plOf; rw [hf]; simp)
              go_wp2_with fail
              refine wp_loop_rounds 1 ?_
              rw [rounds_succ]
              go_wp2_with fail
              go_roundw
              case rel => exact ⟨m + 1, by omega, by go_num, by rw [PE.out]; exact PQ2.out, BQ2.out⟩
              case measure => simp [intOf]; omega
            | some r =>
              rw [show baseV A'.rs x = r.b by unfold baseV; rw [hf], show lenV A'.rs x = r.n by unfold lenV; rw [hf]]
              obtain ⟨hr, hrx⟩ := findR_some hf
              have hre := S3.out.ar.ok.each r hr
              have hsz := S3.out.ar.ok.size
              have PE := Lib.hid (show plAll A'.rs (ids'.take (m + 1)) = plAll A'.rs (ids'.take m) ++ (List.range r.n).map (r.b + ·) by rw [TK.out, plAll_snoc]; unfold plOf; rw [hf])
              have NW := Lib.hid (fun i (hi : i < r.n) => plAll_new S3.out.ar.ok hr (by rw [hrx]; exact NI.out) hi)
              have hnn : (A'.size : Int) = max n 0 := by rw [HSZ.out]; exact SZ.out
              have NN := Lib.hid hnn
              clear hr hrx hf hnn
              obtain ⟨ri, rb, rn⟩ := r
              simp only at hre PE NW ⊢
              go_wp2_with fail
              go_loopw [74] (fun i wp => ∃ q : Nat, q ≤ rn ∧ i = .int .i64 q ∧ PlAt wp x3.heap.size (plAll A'.rs (ids'.take m) ++ (List.range q).map (rb + ·)) ∧ Below x3.heap.size x3 wp) (fun i _ => rn - (intOf i).toNat)
              case atStart => exact ⟨0, by omega, rfl, by simpa using PQ2.out, BQ2.out⟩
              case round =>
                rename World => wp
                obtain ⟨q, hq, rfl, hP, hB⟩ := hrel
                have PP := Lib.hid hP
                have BP := Lib.hid hB
                clear hP hB
                by_cases hqt : q < rn
                · have hno : rb + q ∉ plAll A'.rs (ids'.take m) ++ (List.range q).map (rb + ·) := by
                    intro hm
                    rcases List.mem_append.1 hm with hm | hm
                    · exact NW.out q hqt hm
                    · obtain ⟨j, hj, e⟩ := List.mem_map.1 hm
                      rw [List.mem_range] at hj
                      omega
                  have lk := PP.out.look (x := rb + q) (by omega) hno
                  have KX := Lib.hid (keyI ((rb : Int) + q) (wfI (by omega) (by omega)))
                  rw [show ((rb + q : Nat) : Int) = (rb : Int) + q from by omega] at lk
                  have t9 : decide (q < rn) = true := by simpa using hqt
                  have t10 : decide ((q : Int) < (rn : Int)) = true := by simp; omega
                  have t11 : decide ((rb : Int) + q < 0) = false := by simp; omega
                  have t12 : decide (n ≤ (rb : Int) + q) = false := by have := NN.out; simp; omega
                  obtain ⟨D, ho, hD1, hD2, hD3⟩ := PP.out
                  have HN := Lib.hid hno
                  have HD1 := Lib.hid hD1
                  have HD2 := Lib.hid hD2
                  have HD3 := Lib.hid hD3
                  have hsm := ho.size_le
                  have HP1 := Lib.hid (show (plAll A'.rs (ids'.take m) ++ (List.range q).map (rb + ·)).length < maxLen by
                    have h1 := plAll_take A'.rs ids' (m + 1)
                    rw [PE.out, plAll_len A'.rs ids' S3.out.ar.ok.ids S3.out.fit.nodup S3.out.fit.all] at h1
                    have h2 := S3.out.ar.ok.used_le
                    unfold Ar.used at h2
                    simp only [List.length_append, List.length_map, List.length_range] at h1 ⊢
                    unfold maxLen
                    omega)
                  clear hno hD1 hD2 hD3 hsm
                  go_wp2_with (at_mapUpdate; refine wpList_mapUpdate_own _ rfl _ _ _ 42 rfl 3 4 (Maps.int_keyed Try.underlying3) Try.underlying42 _ x3.heap.size _ D rfl ho HP1.out _ _ (.int .i64 ((rb : Int) + q)) rfl rfl KX.out (.lit (.bool true)) [] (plainElem_bool Try.underlying4 true) ?_; intro z1 ho1 hgr1)
                  have PZ := Lib.hid (PlAt.put (x := rb + q) (by rw [show ((rb + q : Nat) : Int) = (rb : Int) + q from by omega]; exact ho1) HD1.out HD2.out HD3.out HN.out)
                  have BZ := Lib.hid (BP.out.grown hgr1 BP.out.size (fun k e => by cases e; exact Nat.le_refl _))
                  clear ho1 hgr1 lk ho
                  go_wp2_with fail
                  go_roundw
                  case rel => exact ⟨q + 1, by omega, by go_num, by rw [List.range_succ, List.map_append, ← List.append_assoc]; exact PZ.out, BZ.out⟩
                  case measure => simp [intOf]; omega
                · have e : q = rn := by omega
                  subst e
                  have t9 : ¬ q < q := by omega
                  go_wp2_with fail
                  go_roundw
                  case rel => exact ⟨m + 1, by omega, by go_num, by rw [PE.out]; exact PP.out, BP.out⟩
                  case measure => simp [intOf]; omega
          · have e : m = ids'.length := by omega
            subst e
            have S5 := Lib.hid (S3.out.below BQ.out)
            have hp := PQ.out
            rw [List.take_length] at hp
            have hlen := hp.len
            have hsum : (plAll A'.rs ids').length = A'.used := plAll_len A'.rs ids' S3.out.ar.ok.ids S3.out.fit.nodup S3.out.fit.all
            rw [hsum] at hlen
            have hub := S3.out.ar.ok.used_le
            have hsb := S3.out.ar.ok.size
            have t6 : ((A'.size : Int) != max n 0) = false := by
              have := SZ.out
              have := HSZ.out
              simp
              omega
            have t8 : ((A'.size : Int) - A'.used + A'.used != max n 0) = false := by
              have := SZ.out
              have := HSZ.out
              simp
              omega
            have t7 : ¬ ids'.length < ids'.length := by omega
            have LC := Lib.hid (left_c A' g c b _ _ S5.out.ar.ar)
            clear hp hsum
            go_wp2_with fail
            refine LC.out.mono ?_
            rintro e w6 ⟨rfl, rfl⟩
            go_wp2_with fail
            go_roundw
            case rel => exact ⟨k + 1, A', ids', by omega, by go_num, S5.out, hA1, hI1, HSZ.out⟩
            case measure => simp [intOf]; omega
    · have e : k = len1 := by omega
      subst e
      have t0 : ¬ k < k := by omega
      go_wp2_with fail
      go_ret
      exact ⟨rfl, S1.out.ar.below⟩
theorem arenaApart_c (n : Int) (A1 : Option Addr) (len1 cap1 : Nat) (X1 : Nat → Nat → Int) (w : World)
    (hS1 : 0 < len1 → ∃ b o, A1 = some ⟨b, o, none⟩ ∧ b < w.heap.size ∧ ∀ i, i < len1 → ∀ j, j < 4 → w.cell? ⟨b, o + (i * 4 + j), none⟩ = some (.int .i64 (X1 i j)))
    (hX1 : ∀ i, i < len1 → ∀ j, j < 4 → (Lit.int .i64 (X1 i j)).wf = true) :
    Calls Try.prog 6 #[.int .i64 n, .slice A1 len1 cap1] w fun e w' => e = .returned (.bool true) ∧ Below w.heap.size w w' := by
  cases h1 : longB n len1 with
  | true => exact apart_big n A1 len1 cap1 h1 w
  | false => exact apart_main n A1 len1 cap1 X1 w h1 hS1 hX1
end Go.Proofs.Ytgckncggcdmaaaa
