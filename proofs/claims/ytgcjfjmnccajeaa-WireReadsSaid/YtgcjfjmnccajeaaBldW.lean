/- strings.Builder at the head of wire.writer. -/
import Derived.Test.YtgcjfjmnccajeaaRows
import Derived.Test.YtgcjfjmnccajeaaKit
import Derived.Lib.Builder
import Derived.Lib.AppendStr
import Derived.Lib.UnsafeStr
import Derived.RegionTactic
import Derived.ChangeAlike
import Derived.Lib.Strings
import Derived.Lib.Walk
import Derived.Laws.Externs
import Derived.WalkKit
import Derived.WalkSpells
import Derived.WalkLawsBesides
import Derived.OwnWalk
import Derived.Lib.Hide
import Derived.Maps.AppendAt
import Derived.Outline
namespace Go.Proofs.Ytgcjfjmnccajeaa
open Go.RowKit
theorem size_builder : (Try.prog.info? 63).map (·.size) = some 2 := by kernel_rfl
theorem lies_builder : liesAt Try.prog Try.prog.depth 65 (3 / Try.prog.cellsOf 65) 0 63 1 = true := by kernel_rfl
theorem info_u8 : (Try.prog.info? 5).map (fun i => (i.zero, i.size, i.bytes)) = some (some (.int .u8 0), 1, 1) := by kernel_rfl
set_option maxRecDepth 100000 in
theorem check_used (b : Nat) (w : World) (h0 : w.cell? ⟨b, 0, none⟩ = some (.pointer (some ⟨b, 0, none⟩))) :
    Calls Try.prog 31 #[.pointer (some ⟨b, 0, none⟩)] w fun e w' => e = .returned (.tuple #[]) ∧ w' = w := by
  obtain ⟨j, hj, _⟩ := Option.map_eq_some_iff.1 size_builder
  go_enter Try.func31, Try.ntmps31
  go_wp2
  rw [Lib.run_neq_ptr_same w _ Try.underlying60 hj]
  go_wp2
  go_end0
  exact ⟨rfl, rfl⟩
set_option maxRecDepth 100000 in
theorem check_fresh (b : Nat) (w : World) (h0 : w.cell? ⟨b, 0, none⟩ = some (.pointer none)) (hsh : w.shape? b = some (65, 3)) (hfz : w.frozen? ⟨b, 0, none⟩ = false) :
    Calls Try.prog 31 #[.pointer (some ⟨b, 0, none⟩)] w fun e w' => e = .returned (.tuple #[]) ∧ w' = w.setCell ⟨b, 0, none⟩ (.pointer (some ⟨b, 0, none⟩)) := by
  obtain ⟨j, hj, hjs⟩ := Option.map_eq_some_iff.1 size_builder
  go_enter Try.func31, Try.ntmps31
  go_wp2
  rw [Lib.run_to_unsafe w ⟨b, 0, none⟩ Try.underlying60 Try.underlying91 hj (by rw [hjs]; decide) hsh (Nat.zero_lt_succ 2)]
  simp only [Result.andThen]
  rw [Oper.upon_value]
  go_wp2
  rw [run_callFunc_extern Try.func35 (by kernel_rfl) (by kernel_rfl) (by kernel_rfl) (e := Extern.AbiNoEscape.same) (by kernel_rfl)]
  rw [Lib.run_noEscape]
  simp only [Result.andThen]
  rw [Oper.upon_value]
  go_wp2
  rw [Lib.run_from_unsafe w ⟨b, 0, none⟩ Try.underlying91 Try.underlying60 hj hsh lies_builder]
  simp only [Result.andThen]
  rw [Oper.upon_value]
  go_wp2
  go_end0
  exact ⟨rfl, rfl⟩
/-- A builder in block b, that holds bs: neither it nor its buffer is of P. -/
def BAt (P : Nat → Prop) (b : Nat) (p : Value) (x : Value) (bs : List Value) (w : World) : Prop :=
  ∃ v, w.heap[b]? = some (.cells #[p, v, x] 65 (0, 0)) ∧ w.ownsRow 0 5 1 v bs.length bs ∧ v.ownBlock ≠ some b ∧ ¬ P b ∧ ∀ g, v.ownBlock = some g → ¬ P g
def Bld (P : Nat → Prop) (b : Nat) (x : Value) (bs : List Value) (w : World) : Prop := BAt P b (.pointer none) x bs w ∨ BAt P b (.pointer (some ⟨b, 0, none⟩)) x bs w
theorem BAt.lt {P : Nat → Prop} {b : Nat} {p x : Value} {bs : List Value} {w : World} (h : BAt P b p x bs w) : b < w.heap.size := by
  obtain ⟨v, h1, _⟩ := h
  exact Blk.lt h1
theorem Bld.lt {P : Nat → Prop} {b : Nat} {x : Value} {bs : List Value} {w : World} (h : Bld P b x bs w) : b < w.heap.size := h.elim BAt.lt BAt.lt
theorem BAt.far {P Q : Nat → Prop} {b : Nat} {p x : Value} {bs : List Value} {w : World} (h : BAt P b p x bs w) (hQ : ∀ k, k < w.heap.size → Q k → P k) : BAt Q b p x bs w := by
  obtain ⟨v, h1, h2, h3, h4, h5⟩ := h
  exact ⟨v, h1, h2, h3, fun hq => h4 (hQ b (Blk.lt h1) hq), fun g hg hq => h5 g hg (hQ g (h2.lt g hg).2 hq)⟩
/-- The same builder, with other blocks to be kept: such as it held already, and new ones. -/
theorem Bld.far {P Q : Nat → Prop} {b : Nat} {x : Value} {bs : List Value} {w : World} (h : Bld P b x bs w) (hQ : ∀ k, k < w.heap.size → Q k → P k) : Bld Q b x bs w := h.imp (fun h => h.far hQ) (fun h => h.far hQ)
theorem BAt.below {P : Nat → Prop} {b : Nat} {p x : Value} {bs : List Value} {w w' : World} (h : BAt P b p x bs w) (k : Below w.heap.size w w') : BAt P b p x bs w' := by
  obtain ⟨v, h1, h2, h3, h4⟩ := h
  exact ⟨v, Blk.below h1 k, own_below h2 k, h3, h4⟩
theorem Bld.below {P : Nat → Prop} {b : Nat} {x : Value} {bs : List Value} {w w' : World} (h : Bld P b x bs w) (k : Below w.heap.size w w') : Bld P b x bs w' := h.imp (fun h => h.below k) (fun h => h.below k)
theorem BAt.cell0 {P : Nat → Prop} {b : Nat} {p x : Value} {bs : List Value} {w : World} (h : BAt P b p x bs w) : w.cell? ⟨b, 0, none⟩ = some p := by
  obtain ⟨v, h1, _⟩ := h
  rw [Lib.cell_of_heap h1]; rfl
theorem BAt.cell2 {P : Nat → Prop} {b : Nat} {p x : Value} {bs : List Value} {w : World} (h : BAt P b p x bs w) : w.cell? ⟨b, 2, none⟩ = some x := by
  obtain ⟨v, h1, _⟩ := h
  rw [Lib.cell_of_heap h1]; rfl
theorem BAt.free {P : Nat → Prop} {b : Nat} {p x : Value} {bs : List Value} {w : World} (h : BAt P b p x bs w) (i : Nat) : w.frozen? ⟨b, i, none⟩ = false := by
  obtain ⟨v, h1, _⟩ := h
  exact Lib.frozen_of_heap h1 i
theorem BAt.shape {P : Nat → Prop} {b : Nat} {p x : Value} {bs : List Value} {w : World} (h : BAt P b p x bs w) : w.shape? b = some (65, 3) := by
  obtain ⟨v, h1, _⟩ := h
  simp [World.shape?, h1]
theorem Bld.cell2 {P : Nat → Prop} {b : Nat} {x : Value} {bs : List Value} {w : World} (h : Bld P b x bs w) : w.cell? ⟨b, 2, none⟩ = some x := h.elim BAt.cell2 BAt.cell2
theorem Bld.free {P : Nat → Prop} {b : Nat} {x : Value} {bs : List Value} {w : World} (h : Bld P b x bs w) (i : Nat) : w.frozen? ⟨b, i, none⟩ = false := h.elim (fun h => h.free i) (fun h => h.free i)
theorem BAt.set2 {P : Nat → Prop} {b : Nat} {p x : Value} {bs : List Value} {w : World} (h : BAt P b p x bs w) (y : Value) : BAt P b p y bs (w.setCell ⟨b, 2, none⟩ y) := by
  obtain ⟨v, h1, h2, h3, h4, h5⟩ := h
  refine ⟨v, Blk.set h1 2 y, ?_, h3, h4, h5⟩
  exact h2.kept (row := some b) ⟨rfl, rfl, rfl, by simp [World.setCell], fun k _ hk => Below.heap_setCell _ _ _ _ (fun e => hk (by simp [e]))⟩ (.inr h3)
theorem Bld.set2 {P : Nat → Prop} {b : Nat} {x : Value} {bs : List Value} {w : World} (h : Bld P b x bs w) (y : Value) : Bld P b y bs (w.setCell ⟨b, 2, none⟩ y) := h.imp (fun h => h.set2 y) (fun h => h.set2 y)
theorem Bld.nP {P : Nat → Prop} {b : Nat} {x : Value} {bs : List Value} {w : World} (h : Bld P b x bs w) : ¬ P b := h.elim (fun ⟨_, _, _, _, h4, _⟩ => h4) (fun ⟨_, _, _, _, h4, _⟩ => h4)
theorem BAt.used {P : Nat → Prop} {b : Nat} {p x : Value} {bs : List Value} {w : World} (h : BAt P b p x bs w) (q : Value) : BAt P b q x bs (w.setCell ⟨b, 0, none⟩ q) := by
  obtain ⟨v, h1, h2, h3, h4, h5⟩ := h
  refine ⟨v, Blk.set h1 0 q, ?_, h3, h4, h5⟩
  exact h2.kept (row := some b) ⟨rfl, rfl, rfl, by simp [World.setCell], fun k _ hk => Below.heap_setCell _ _ _ _ (fun e => hk (by simp [e]))⟩ (.inr h3)
theorem Bld.drew {P : Nat → Prop} {b : Nat} {x : Value} {bs : List Value} {w : World} (h : Bld P b x bs w) : Bld P b x bs w.drew := h
theorem check_c (P : Nat → Prop) (b : Nat) (x : Value) (bs : List Value) (w : World) (h : Bld P b x bs w) :
    Calls Try.prog 31 #[.pointer (some ⟨b, 0, none⟩)] w fun e w' => e = .returned (.tuple #[]) ∧ BAt P b (.pointer (some ⟨b, 0, none⟩)) x bs w' ∧ Keep P w w' := by
  rcases h with h | h
  · refine (check_fresh b w h.cell0 h.shape (h.free 0)).mono ?_
    rintro e w' ⟨rfl, rfl⟩
    have hb : ¬ P b := by obtain ⟨_, _, _, _, h4, _⟩ := h; exact h4
    exact ⟨rfl, h.used _, (Keep.refl P w).set (p := ⟨b, 0, none⟩) hb _⟩
  · refine (check_used b w h.cell0).mono ?_
    rintro e w' ⟨rfl, rfl⟩
    exact ⟨rfl, h, Keep.refl P _⟩
/-- Where the new slice lies. -/
theorem run_append_str_at {P : Program} (w : World) (t u ty e : TypeId) (i : TypeInfo) (ht : P.underlying t = some (.slice e)) (hu : P.underlying u = some .string) (hi : P.info? e = some i) (hz : i.zero = some (.int .u8 0))
    (hsize : i.size = 1) (hby : i.bytes = 1)
    (v : Value) (n : Nat) (xs : List Value) (hown : w.ownsRow 0 e 1 v n xs) (s : ByteArray)
    (h63 : n + s.size ≤ maxLen) (hbytes : n + s.size ≤ 140737488355328) :
    ∃ v' w', (Builtin.append_ #[t, u] ty #[v, .string s]).run P w = .ok v' w' ∧ w'.ownsRow 0 e 1 v' (n + s.size) (xs ++ Lib.strCells s) ∧ w.grownBy w' v.ownBlock ∧ (v'.ownBlock = v.ownBlock ∨ v'.ownBlock = some w.heap.size) := by
  obtain ⟨v', w', hr, h1, h2, h3⟩ := Lib.run_append_own_string (P := P) w 0 t u ty e i ht hu hi hz hsize hby v n xs hown s h63 hbytes (Nat.zero_le _)
  refine ⟨v', w', hr, h1, h2, ?_⟩
  have hxl : xs.length = n := by simpa using hown.1
  have hsmall : n + s.size ≤ 9223372036854775807 := by simp only [maxLen] at h63; omega
  rcases hown.2 with ⟨rfl, rfl⟩ | ⟨g, cap, cur, rfl, hbg, hg, hnc, hcm, hcs, htake⟩
  · by_cases hm : s.size = 0
    · rw [h3.2 ⟨rfl, hm⟩]; exact .inl rfl
    · have hr' := run_append_nil_string (P := P) w t u ty e i (.int .u8 0) ht hu hi hz s (by omega) (by omega) (by rw [hby]; omega)
      rw [hr] at hr'
      injection hr' with e1 e2
      rw [e1]; exact .inr rfl
  · by_cases hroom : n + s.size ≤ cap
    · have hcs' : cur.size = cap := by simpa using hcs
      have hr' := Lib.run_append_room_string (P := P) w t u ty e i ht hu hi hsize g n cap cur hg s hroom (by omega)
      rw [hr] at hr'
      injection hr' with e1 e2
      rw [e1]; exact .inl rfl
    · have holds : ∀ j u, xs[j]? = some u → w.cell? ((⟨g, 0, none⟩ : Addr).add j) = some u := hown.cells (g := g) rfl
      have hr' := Lib.run_append_grow_string (P := P) w t u ty e i (.int .u8 0) ht hu hi hz ⟨g, 0, none⟩ n cap xs (by rw [hsize]; simpa using hxl) holds s (by omega) (by omega) (by rw [hby]; exact growslice_fits (by omega) (by omega))
      rw [hr] at hr'
      injection hr' with e1 e2
      rw [e1]; exact .inr rfl
theorem wpList_append_str_at {P : Program} (w : World) {ops : Array Oper} {rest : List Oper} {o : Oper} {a : Act} {Q : Exit → Act → World → Prop} (hgd : o.guard = none) (sl x : Operand) (t u : TypeId)
    (ho : o.op = .call { callee := .builtin .append, args := #[sl, x], argTypes := #[t, u] })
    (e : TypeId) (i : TypeInfo) (ht : P.underlying t = some (.slice e)) (hu : P.underlying u = some .string) (hi : P.info? e = some i) (hz : i.zero = some (.int .u8 0))
    (hsize : i.size = 1) (hby : i.bytes = 1)
    (v : Value) (n : Nat) (xs : List Value) (hs : a.eval sl = v) (hown : w.ownsRow 0 e 1 v n xs) (s : ByteArray) (hx : a.eval x = .string s)
    (h63 : n + s.size ≤ maxLen) (hbytes : n + s.size ≤ 140737488355328)
    (h : ∀ v' w', w'.ownsRow 0 e 1 v' (n + s.size) (xs ++ Lib.strCells s) → w.grownBy w' v.ownBlock → (v'.ownBlock = v.ownBlock ∨ v'.ownBlock = some w.heap.size) → wpList P ops Q rest (a.put o.dst v') w') : wpList P ops Q (o :: rest) a w := by
  refine wpList_plain hgd fun K hK => ?_
  obtain ⟨v', w', hr, h2, h3, h4⟩ := run_append_str_at (P := P) w t u o.type e i ht hu hi hz hsize hby v n xs hown s h63 hbytes
  unfold Oper.wp execOp
  simp only [ho, resolve, invoke, builtin, Sem.run_bind, Sem.run_pure, Result.andThen_ok, List.map_toArray, List.map_cons, List.map_nil, hs, hx, hr]
  exact hK _ _ (h v' w' h2 h3 h4)
theorem bld_put {P : Nat → Prop} {b n' : Nat} {p x v v' : Value} {bs' : List Value} {w w1 w1' w2 : World} (hbk : w1.heap[b]? = some (.cells #[p, v, x] 65 (0, 0))) (hne : v.ownBlock ≠ some b) (hnb : ¬ P b) (hng : ∀ g, v.ownBlock = some g → ¬ P g)
    (hk : Keep P w w1) (hP : ∀ k, P k → k < w.heap.size) (hw : w1' = w1 ∨ ∃ o, w1' = w1.alloc o) (hgrow : w1'.grownBy w2 v.ownBlock) (hown : w2.ownsRow 0 5 1 v' n' bs') (hn : n' = bs'.length) (hat : v'.ownBlock = v.ownBlock ∨ v'.ownBlock = some w1'.heap.size) :
    BAt P b p x bs' (w2.setCell ⟨b, 1, none⟩ v') ∧ Keep P w (w2.setCell ⟨b, 1, none⟩ v') := by
  subst hn
  have hk1 : Keep P w w1' := by
    rcases hw with rfl | ⟨o, rfl⟩
    · exact hk
    · exact hk.alloc o
  have hb1 : w1'.heap[b]? = some (.cells #[p, v, x] 65 (0, 0)) := by
    rcases hw with rfl | ⟨o, rfl⟩
    · exact hbk
    · exact Blk.alloc hbk o
  have hl1 : b < w1'.heap.size := Blk.lt hb1
  have hb2 : Blk w2 b 65 #[p, v, x] := Blk.grown hb1 hgrow (fun e => hne e.symm)
  have hnev : v'.ownBlock ≠ some b := by
    rcases hat with h | h
    · rw [h]; exact hne
    · rw [h]; intro e; have : w1'.heap.size = b := by simpa using e
      omega
  refine ⟨⟨v', Blk.set hb2 1 v', ?_, hnev, hnb, ?_⟩, (hk1.grown hgrow hng).set (p := ⟨b, 1, none⟩) hnb _⟩
  · exact hown.kept (row := some b) ⟨rfl, rfl, rfl, by simp [World.setCell], fun k _ hk => Below.heap_setCell _ _ _ _ (fun e => hk (by simp [e]))⟩ (.inr hnev)
  · intro g hg hp
    rcases hat with h | h
    · exact hng g (by rw [← h]; exact hg) hp
    · rw [h] at hg
      have : w1'.heap.size = g := by simpa using hg
      have := hP g hp
      have := hk1.size
      omega
set_option maxHeartbeats 1000000 in
set_option maxRecDepth 100000 in
theorem writeS_c (P : Nat → Prop) (b : Nat) (x : Value) (bs : List Value) (s : ByteArray) (w : World) (h : Bld P b x bs w) (hlen : bs.length + s.size ≤ 140737488355328) (hP : ∀ k, P k → k < w.heap.size) :
    Calls Try.prog 21 #[.pointer (some ⟨b, 0, none⟩), .string s] w fun e w' => e = .returned (.tuple #[.int .i64 s.size, .nilIface]) ∧ Bld P b x (bs ++ Lib.strCells s) w' ∧ Keep P w w' := by
  obtain ⟨i0, hi, hz0, hz1, hz2⟩ := info_parts info_u8
  have HH := Lib.hid h
  have HP := Lib.hid hP
  clear h hP
  go_enter Try.func21, Try.ntmps21
  go_wp2_with fail
  refine (check_c P b x bs _ HH.out).mono ?_
  rintro e w1 ⟨rfl, h1, hb1⟩
  obtain ⟨v, hbk, hown, hne, hnb, hng⟩ := h1
  have c0 : w1.cell? ⟨b, 0, none⟩ = some (.pointer (some ⟨b, 0, none⟩)) := by rw [Lib.cell_of_heap hbk]; rfl
  have c1 : w1.cell? ⟨b, 1, none⟩ = some v := by rw [Lib.cell_of_heap hbk]; rfl
  go_wp2_with (at_builtin; refine wpList_append_str_at _ rfl _ _ 61 9 rfl 5 i0 Try.underlying61 Try.underlying9 hi hz0 hz1 hz2 _ _ _ rfl hown s rfl ?c3 ?c4 ?_)
  case c3 => unfold maxLen; omega
  case c4 => omega
  intro v' w2 hown' hgrow hat
  have hlt : b < w1.heap.size := (Array.getElem?_eq_some_iff.1 hbk).1
  have hb2 : w2.heap[b]? = some (.cells #[.pointer (some ⟨b, 0, none⟩), v, x] 65 (0, 0)) := by
    rw [hgrow.block b hlt (fun e => hne e.symm)]
    exact hbk
  have d0 : w2.cell? ⟨b, 0, none⟩ = some (.pointer (some ⟨b, 0, none⟩)) := by rw [Lib.cell_of_heap hb2]; rfl
  have d1 : w2.cell? ⟨b, 1, none⟩ = some v := by rw [Lib.cell_of_heap hb2]; rfl
  have f1 : w2.frozen? ⟨b, 1, none⟩ = false := Lib.frozen_of_heap hb2 1
  obtain ⟨ao, n', cap, rfl⟩ : ∃ ao n' cap, v' = .slice ao n' cap := by
    rcases hown'.2 with ⟨hv, _⟩ | ⟨g, cap, cur, hv, _⟩
    · exact ⟨_, _, _, hv⟩
    · exact ⟨_, _, _, hv⟩
  go_wp2
  go_ret2
  have hz := bld_put hbk hne hnb hng hb1 HP.out (.inl rfl) hgrow hown' (by simp [Lib.strCells_length]) hat
  exact ⟨rfl, .inr hz.1, hz.2⟩
set_option maxHeartbeats 1000000 in
set_option maxRecDepth 100000 in
theorem writeB_c (P : Nat → Prop) (b : Nat) (x : Value) (bs : List Value) (c : Int) (w : World) (h : Bld P b x bs w) (hlen : bs.length + 1 ≤ 140737488355328) (hP : ∀ k, P k → k < w.heap.size) :
    Calls Try.prog 19 #[.pointer (some ⟨b, 0, none⟩), .int .u8 c] w fun e w' => e = .returned .nilIface ∧ Bld P b x (bs ++ [.int .u8 c]) w' ∧ Keep P w w' := by
  obtain ⟨i0, hi, hz0, hz1, hz2⟩ := info_parts info_u8
  have HH := Lib.hid h
  have HP := Lib.hid hP
  clear h hP
  go_enter Try.func19, Try.ntmps19
  go_wp2_with fail
  refine (check_c P b x bs _ HH.out).mono ?_
  rintro e w1 ⟨rfl, h1, hb1⟩
  obtain ⟨v, hbk, hown, hne, hnb, hng⟩ := h1
  have c0 : w1.cell? ⟨b, 0, none⟩ = some (.pointer (some ⟨b, 0, none⟩)) := by rw [Lib.cell_of_heap hbk]; rfl
  have c1 : w1.cell? ⟨b, 1, none⟩ = some v := by rw [Lib.cell_of_heap hbk]; rfl
  go_wp2_with (at_builtin; refine wpList_append_own_at _ rfl _ _ 61 rfl 0 5 i0 (.int .u8 0) 1 1 Try.underlying61 hi hz0 hz1 hz2 rfl (by decide) _ _ _ rfl (hown.alloc _) ⟨w1.heap.size, 0, none⟩ 1 1 [.int .u8 c] rfl rfl ?c1 ?c2 ?c3 ?c4 ?c5 ?_)
  case c1 => exact cell_one_new _ _ _
  case c2 => intro u hu; simp at hu; subst hu; rfl
  case c3 => unfold maxLen; omega
  case c4 => omega
  case c5 => first | omega | (simp; omega) | simp
  intro v' w2 hown' hgrow _ hat
  have hlt : b < w1.heap.size := (Array.getElem?_eq_some_iff.1 hbk).1
  have hb2 : w2.heap[b]? = some (.cells #[.pointer (some ⟨b, 0, none⟩), v, x] 65 (0, 0)) := by
    rw [hgrow.block b (by simp; omega) (fun e => hne e.symm), Lib.alloc_old w1 _ b hlt]
    exact hbk
  have d0 : w2.cell? ⟨b, 0, none⟩ = some (.pointer (some ⟨b, 0, none⟩)) := by rw [Lib.cell_of_heap hb2]; rfl
  have d1 : w2.cell? ⟨b, 1, none⟩ = some v := by rw [Lib.cell_of_heap hb2]; rfl
  have f1 : w2.frozen? ⟨b, 1, none⟩ = false := Lib.frozen_of_heap hb2 1
  obtain ⟨g, cap, rfl⟩ : ∃ g cap, v' = .slice (some ⟨g, 0, none⟩) (bs.length + 1) cap := by
    rcases hown'.2 with ⟨_, h0⟩ | ⟨g, cap, cur, hv, _⟩
    · omega
    · exact ⟨g, cap, hv⟩
  go_wp2
  go_ret
  have hz := bld_put hbk hne hnb hng hb1 HP.out (.inr ⟨_, rfl⟩) hgrow hown' (by simp) (by rw [World.size_alloc]; exact hat)
  exact ⟨rfl, .inr hz.1, hz.2⟩
theorem builder_new (P : Nat → Prop) (w : World) (hP : ∀ k, P k → k < w.heap.size) (x : Value) : Bld P w.heap.size x [] (w.alloc (.cells #[.pointer none, .slice none 0 0, x] 65)) :=
  .inl ⟨_, Blk.made _ _ _, World.ownsRow_nil _ _ _ _, by simp [Value.ownBlock], fun h => Nat.lt_irrefl _ (hP _ h), by simp [Value.ownBlock]⟩
theorem cells_u8 : Try.prog.cellsOf 5 = 1 := by kernel_rfl
set_option maxHeartbeats 2000000 in
set_option maxRecDepth 100000 in
theorem string_some (B b g cap : Nat) (p x : Value) (l : List UInt8) (cur : Array Value) (w : World) (h0 : l ≠ []) (hB : B ≤ g) (hbk : w.heap[b]? = some (.cells #[p, .slice (some ⟨g, 0, none⟩) l.length cap, x] 65 (0, 0)))
    (hown : w.ownsRow 0 5 1 (.slice (some ⟨g, 0, none⟩) l.length cap) l.length (Lib.byteCells l)) (hg : w.heap[g]? = some (.cells cur 5 (0, 0))) (hnc : l.length ≤ cap) (hcm : cap ≤ maxLen) (hcs : cur.size = cap * 1) :
    Calls Try.prog 32 #[.pointer (some ⟨b, 0, none⟩)] w fun e w' => e = .returned (.string ⟨l.toArray⟩) ∧ Below B w w' := by
  have hl0 : l.length ≠ 0 := by simpa using h0
  have c1 : w.drew.cell? ⟨b, 1, none⟩ = some (.slice (some ⟨g, 0, none⟩) l.length cap) := by
    have : w.drew.heap[b]? = some (.cells #[p, .slice (some ⟨g, 0, none⟩) l.length cap, x] 65 (0, 0)) := hbk
    rw [Lib.cell_of_heap this]; rfl
  have hSD : (Builtin.unsafeSliceData_ #[61] 93 #[.slice (some ⟨g, 0, none⟩) l.length cap]).run Try.prog w.drew = .ok (.pointer (some ⟨g, 0, none⟩)) w.drew :=
    Lib.run_unsafeSliceData_row _ _ _ _ _ _ (by omega)
  have hUS : (Builtin.unsafeString_ #[93, 3] 9 #[.pointer (some ⟨g, 0, none⟩), .int .i64 l.length]).run Try.prog w.drew = .ok (.string ⟨l.toArray⟩) (w.drew.freeze ⟨g, 0, none⟩ l.length) := by
    refine Lib.run_unsafeString_row w.drew 93 3 9 5 Try.underlying93 cells_u8 g cur.size (by have hg' : w.drew.heap[g]? = some (.cells cur 5 (0, 0)) := hg; simp [World.shape?, hg']) l h0 (by omega) (by unfold maxLen at hcm; omega) ?_
    intro j x hx
    have := hown.cells (g := g) rfl j (.int .u8 x.toNat) (by simp [Lib.byteCells, hx])
    exact this
  clear hl0 hbk hown hg hcs
  go_enter Try.func32, Try.ntmps32
  go_wp2
  go_region
  all_goals (go_wp2; go_ret; exact ⟨rfl, Lib.below_freeze (Below.drew (Below.refl B w)) (p := ⟨g, 0, none⟩) hB _⟩)
/-- What was written: no empty text. -/
theorem string_c (B : Nat) (P : Nat → Prop) (b : Nat) (x : Value) (l : List UInt8) (w : World) (h : Bld P b x (Lib.byteCells l) w) (h0 : l ≠ []) (hB : ∀ k, k < B → P k) :
    Calls Try.prog 32 #[.pointer (some ⟨b, 0, none⟩)] w fun e w' => e = .returned (.string ⟨l.toArray⟩) ∧ Below B w w' := by
  obtain ⟨p, v, hbk, hown, hne, hnb, hng⟩ : ∃ p, BAt P b p x (Lib.byteCells l) w := by
    rcases h with h | h
    · exact ⟨_, h⟩
    · exact ⟨_, h⟩
  rw [Lib.byteCells_length] at hown
  rcases hown.2 with ⟨_, hz⟩ | ⟨g, cap, cur, rfl, hbg, hg, hnc, hcm, hcs, _⟩
  · exact absurd hz (by simpa using h0)
  · exact string_some B b g cap p x l cur w h0 (Nat.le_of_not_lt (fun hl => hng g rfl (hB g hl))) hbk hown hg hnc hcm hcs
end Go.Proofs.Ytgcjfjmnccajeaa
