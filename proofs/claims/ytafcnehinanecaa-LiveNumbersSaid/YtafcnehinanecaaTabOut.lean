/- A table that is being made: one row more, one tag more. -/
import Derived.Test.YtafcnehinanecaaTabGrow
namespace Go.Proofs.Ytafcnehinanecaa
open Go.RowKit
theorem tbCs_setNext {c s : Int} {m : List Nat} {vn vt : Value} (h : m.length = 256) (u : Value) : (tbCs c s m vn vt).setIfInBounds 258 u = tbCs c s m u vt := by
  unfold tbCs; apply Array.ext'
  rw [Array.toList_setIfInBounds]
  show List.set _ 258 u = _
  rw [← List.append_assoc, ← List.append_assoc, List.set_append_right _ _ (by simp [h])]
  simp [h]
theorem tbCs_setTag {c s : Int} {m : List Nat} {vn vt : Value} (h : m.length = 256) (u : Value) : (tbCs c s m vn vt).setIfInBounds 259 u = tbCs c s m vn u := by
  unfold tbCs; apply Array.ext'
  rw [Array.toList_setIfInBounds]
  show List.set _ 259 u = _
  rw [← List.append_assoc, ← List.append_assoc, List.set_append_right _ _ (by simp [h])]
  simp [h]
theorem own_put {w : World} {B e size n g j : Nat} {v u : Value} {xs : List Value} (h : w.ownsRow B e size v n xs) (hg : g < B) : (w.setCell ⟨g, j, none⟩ u).ownsRow B e size v n xs :=
  own_only h ((Only.refl [g] w).set (p := ⟨g, j, none⟩) (.inl (by simp)) u) (fun x hx => by rw [List.mem_singleton] at hx; omega)
section
variable {w w' : World} {B g : Nat} {c s : Int} {m : List Nat} {rows : List (List Int)} {tags : List Int} {vn vt : Value} {vs : List Value}
theorem OutAt.pushRow (hm : m.length = 256) (h1 : Blk w g 26 (tbCs c s m vn vt)) (h2 : g < B) (h3 : w.ownsRow B 24 1 vn rows.length vs) (h4 : w.ownsRow B 3 1 vt tags.length (ints tags)) (h5 : vs.length = rows.length)
    (h6 : ∀ i (h : i < rows.length) (h' : i < vs.length), w.ownsRow B 3 1 vs[i] rows[i].length (ints rows[i]) ∧ (vs[i].ownBlock = none ∨ vs[i].ownBlock ≠ vt.ownBlock))
    {row : List Int} {v v' : Value} (h7 : w.ownsRow B 3 1 v row.length (ints row)) (h8 : v.ownBlock = none ∨ v.ownBlock ≠ vt.ownBlock)
    (o : w'.ownsRow B 24 1 v' (rows.length + 1) (vs ++ [v])) (k : w.grownBy w' vn.ownBlock) : OutAt (w'.setCell ⟨g, 258, none⟩ v') B g c s m (rows ++ [row]) tags := by
  refine ⟨v', vt, vs ++ [v], ((h1.grown k (own_ne h3 h2)).set 258 v').cast (tbCs_setNext hm v'), h2, ?_, own_put (h4.kept k (own_types h4 h3 (by decide))) h2, by simp [h5], fun i hi hi' => ?_⟩
  · rw [List.length_append]; exact own_put o h2
  · by_cases e : i < rows.length
    · have e1 : (vs ++ [v])[i] = vs[i]'(by omega) := List.getElem_append_left (by omega)
      have e2 : (rows ++ [row])[i] = rows[i] := List.getElem_append_left e
      rw [e1, e2]
      obtain ⟨a, b⟩ := h6 i e (by omega)
      exact ⟨own_put (a.kept k (own_types a h3 (by decide))) h2, b⟩
    · have e0 : i = rows.length := by rw [List.length_append, List.length_singleton] at hi; omega
      have e1 : (vs ++ [v])[i] = v := by rw [List.getElem_append_right (by omega)]; simp
      have e2 : (rows ++ [row])[i] = row := by rw [List.getElem_append_right (by omega)]; simp
      rw [e1, e2]
      exact ⟨own_put (h7.kept k (own_types h7 h3 (by decide))) h2, h8⟩
theorem OutAt.pushTag (hm : m.length = 256) (h1 : Blk w g 26 (tbCs c s m vn vt)) (h2 : g < B) (h3 : w.ownsRow B 24 1 vn rows.length vs) (h4 : w.ownsRow B 3 1 vt tags.length (ints tags)) (h5 : vs.length = rows.length)
    (h6 : ∀ i (h : i < rows.length) (h' : i < vs.length), w.ownsRow B 3 1 vs[i] rows[i].length (ints rows[i]) ∧ (vs[i].ownBlock = none ∨ vs[i].ownBlock ≠ vt.ownBlock))
    {x : Int} {v' : Value} (o : w'.ownsRow B 3 1 v' (tags.length + 1) (ints tags ++ [.int .i64 x])) (k : w.grownBy w' vt.ownBlock) (hw : v'.ownBlock = vt.ownBlock ∨ ∀ k, v'.ownBlock = some k → w.heap.size ≤ k) :
    OutAt (w'.setCell ⟨g, 259, none⟩ v') B g c s m rows (tags ++ [x]) := by
  refine ⟨vn, v', vs, ((h1.grown k (own_ne h4 h2)).set 259 v').cast (tbCs_setTag hm v'), h2, own_put (h3.kept k (own_types h3 h4 (by decide))) h2, ?_, h5, fun i hi hi' => ?_⟩
  · rw [List.length_append, ints_app]; exact own_put o h2
  · obtain ⟨a, b⟩ := h6 i hi hi'
    refine ⟨own_put (a.kept k b) h2, ?_⟩
    rcases b with b | b
    · exact .inl b
    · rcases hw with hw | hw
      · exact .inr (by rw [hw]; exact b)
      · cases hv : vs[i].ownBlock with
        | none => exact .inl rfl
        | some q =>
          refine .inr fun e => ?_
          have h1 := hw q e.symm
          have h2 := (a.lt q hv).2
          omega
end
theorem tab_zero : (Try.prog.info? 26).bind (·.zero) = some (.agg (tbCs 0 0 (List.replicate 256 0) (.slice none 0 0) (.slice none 0 0))) := by kernel_rfl
theorem tbCs_one (c s : Int) (m : List Nat) {vn vt : Value} (h : vn.oneCell' = true) (h' : vt.oneCell' = true) : (tbCs c s m vn vt).all (·.oneCell') = true := by
  rw [Array.all_eq_true_iff_forall_mem]
  intro x hx
  unfold tbCs at hx
  simp only [List.mem_toArray, List.mem_append, List.mem_map, List.mem_cons, List.not_mem_nil, or_false] at hx
  rcases hx with (rfl | rfl) | ⟨n, _, rfl⟩ | rfl | rfl <;> first | rfl | assumption
theorem fold_size : ∀ (xs : List Value) (off k : Nat) (cs : Array Value), ((xs.zipIdx k).foldl (fun cs p => cs.setIfInBounds (off + p.2) p.1) cs).size = cs.size
  | [], _, _, _ => rfl
  | x :: xs, off, k, cs => by
    rw [List.zipIdx_cons, List.foldl_cons, fold_size xs off (k + 1)]; simp
theorem fold_at : ∀ (xs : List Value) (off k : Nat) (cs : Array Value) (i : Nat), ((xs.zipIdx k).foldl (fun cs p => cs.setIfInBounds (off + p.2) p.1) cs)[i]? =
    if off + k ≤ i ∧ i < off + k + xs.length ∧ i < cs.size then xs[i - (off + k)]? else cs[i]?
  | [], off, k, cs, i => by rw [if_neg (by simp; omega)]; rfl
  | x :: xs, off, k, cs, i => by
    rw [List.zipIdx_cons, List.foldl_cons, fold_at xs off (k + 1)]
    simp only [Array.size_setIfInBounds, Array.getElem?_setIfInBounds, List.length_cons]
    by_cases h : off + k = i
    · subst h
      rw [if_neg (by omega), if_pos rfl]
      by_cases h2 : off + k < cs.size
      · rw [if_pos h2, if_pos ⟨by omega, by omega, h2⟩, Nat.sub_self]; rfl
      · rw [if_neg h2, if_neg (by omega), Array.getElem?_eq_none (by omega)]
    · rw [if_neg h]
      by_cases h2 : off + (k + 1) ≤ i ∧ i < off + (k + 1) + xs.length ∧ i < cs.size
      · rw [if_pos h2, if_pos (by omega), show i - (off + k) = (i - (off + (k + 1))) + 1 by omega, List.getElem?_cons_succ]
      · rw [if_neg h2, if_neg (by omega)]
theorem tbCs_get (c s : Int) (m : List Nat) (vn vt : Value) (h : m.length = 256) (i : Nat) : (tbCs c s m vn vt)[i]? = if i = 0 then some (.int .i64 c) else if i = 1 then some (.int .i64 s) else if i < 258 then (bytesV m)[i - 2]? else if i = 258 then some vn else if i = 259 then some vt else none := by
  by_cases h0 : i = 0
  · subst h0; rfl
  rw [if_neg h0]
  by_cases h1 : i = 1
  · subst h1; rfl
  rw [if_neg h1]
  by_cases h2 : i < 258
  · rw [if_pos h2, bytesV_at _ (by omega)]
    have := tbCs_byte (c := c) (s := s) (m := m) (vn := vn) (vt := vt) (j := i - 2) (by omega)
    rwa [show 2 + (i - 2) = i by omega] at this
  rw [if_neg h2]
  by_cases h3 : i = 258
  · subst h3; rw [if_pos rfl]; exact tbCs_next h
  rw [if_neg h3]
  by_cases h4 : i = 259
  · subst h4; rw [if_pos rfl]; exact tbCs_tag h
  rw [if_neg h4]
  exact Array.getElem?_eq_none (by rw [tbCs_size _ _ _ _ _ h]; omega)
theorem tab_places : (match Try.prog.underlying 26 with | some (.struct fields) => fields.toList.mapM (fun f => (Try.prog.info? f.type).map fun i => (f.offset, i.size)) | _ => none) = some [(0, 1), (1, 1), (2, 256), (258, 1), (259, 1)] := by kernel_rfl
set_option maxRecDepth 100000 in
theorem tab_built (c s : Int) (m : List Nat) (h : m.length = 256) : Try.prog.built 26 [(0, .int .i64 c), (2, .agg (bytesV m)), (1, .int .i64 s)] = some (tbCs c s m (.slice none 0 0) (.slice none 0 0)) := by
  have hp := tab_places
  have hz := tab_zero
  unfold Program.built
  cases hi : Try.prog.info? 26 with
  | none => rw [hi] at hz; cases hz
  | some it =>
    rw [hi] at hz
    have hz' : it.zero = some (.agg (tbCs 0 0 (List.replicate 256 0) (.slice none 0 0) (.slice none 0 0))) := hz
    cases hu : Try.prog.underlying 26 with
    | none => rw [hu] at hp; cases hp
    | some d =>
      rw [hu] at hp
      cases d with
      | struct fields =>
        have hp' : fields.toList.mapM (fun f => (Try.prog.info? f.type).map fun i => (f.offset, i.size)) = some [(0, 1), (1, 1), (2, 256), (258, 1), (259, 1)] := hp
        have z256 : (List.replicate 256 (0 : Nat)).length = 256 := List.length_replicate
        have hbs := bytesV_size m
        simp only [hz', hp']
        have sz := tbCs_size 0 0 (List.replicate 256 0) (.slice none 0 0) (.slice none 0 0) z256
        generalize hZ : tbCs 0 0 (List.replicate 256 0) (.slice none 0 0) (.slice none 0 0) = Z at *
        have e1 : ∀ (v : Value) (off size : Nat) (cs : Array Value) (rest : List (Nat × Value)) (i : Nat), [(0, 1), (1, 1), (2, 256), (258, 1), (259, 1)].toArray[i]? = some (off, size) → v.cells.size = size → off + size ≤ cs.size →
            Instr.fill ([(0, 1), (1, 1), (2, 256), (258, 1), (259, 1)].toArray[·]?) cs ((i, v) :: rest) = Instr.fill ([(0, 1), (1, 1), (2, 256), (258, 1), (259, 1)].toArray[·]?) ((v.cells.toList.zipIdx 0).foldl (fun cs p => cs.setIfInBounds (off + p.2) p.1) cs) rest := by
          intro v off size cs rest i hi hv hs
          rw [Instr.fill]
          simp only [hi]
          rw [if_neg (by simp; omega)]
          congr 1
          rw [← Array.foldl_toList, Array.toList_zipIdx]
        show Instr.fill ([(0, 1), (1, 1), (2, 256), (258, 1), (259, 1)].toArray[·]?) Z _ = _
        rw [e1 _ 0 1 _ _ _ rfl rfl (by omega), e1 _ 2 256 _ _ _ rfl (by rw [show (Value.agg (bytesV m)).cells = bytesV m from rfl, hbs, h]) (by rw [fold_size]; omega), e1 _ 1 1 _ _ _ rfl rfl (by rw [fold_size, fold_size]; omega), Instr.fill]
        congr 1
        apply Array.ext_getElem?
        intro i
        rw [fold_at, fold_size, fold_size, fold_at, fold_size, fold_at, sz, tbCs_get _ _ _ _ _ h, ← hZ, tbCs_get _ _ _ _ _ z256]
        rw [show (Value.agg (bytesV m)).cells = bytesV m from rfl, show (Value.int .i64 s).cells.toList = [.int .i64 s] from rfl, show (Value.int .i64 c).cells.toList = [.int .i64 c] from rfl, show (bytesV m).toList.length = 256 from by rw [Array.length_toList, hbs, h]]
        by_cases h0 : i = 0
        · subst h0; rfl
        by_cases h1 : i = 1
        · subst h1; rfl
        have q1 : ¬ (1 + 0 ≤ i ∧ i < 1 + 0 + [Value.int .i64 s].length ∧ i < 260) := by simp; omega
        have q0 : ¬ (0 + 0 ≤ i ∧ i < 0 + 0 + [Value.int .i64 c].length ∧ i < 260) := by simp; omega
        simp only [if_neg q1, if_neg q0, if_neg h0, if_neg h1]
        by_cases h2 : i < 258
        · rw [if_pos (by omega), if_pos h2]; simp
        · rw [if_neg (by omega), if_neg h2, if_neg h2]
      | _ => cases hp
theorem tab_build (c s : Int) (m : List Nat) (h : m.length = 256) (w : World) : (Instr.build 26 #[(0, .int .i64 c), (2, .agg (bytesV m)), (1, .int .i64 s)]).run Try.prog w = .ok (.agg (tbCs c s m (.slice none 0 0) (.slice none 0 0))) w := run_build w 26 _ _ (tab_built c s m h)
theorem Blk.range {w : World} {g : Nat} {t : TypeId} {cs : Array Value} (h : Blk w g t cs) : w.rangeAt g 0 cs.toList := fun j v hv => by
  rw [Nat.zero_add, h.cell]; simpa using hv
theorem TbR.one {w : World} {tv : Array Value} {T : Tb} (h : TbR w tv T) : tv.all (·.oneCell') = true := by
  obtain ⟨_, _, vn, vt, rfl, h3, h4⟩ := h
  obtain ⟨a, c, rfl⟩ := h3.form
  obtain ⟨a', c', rfl, _⟩ := h4
  exact tbCs_one _ _ _ rfl rfl
/-- A table's rows lie elsewhere: what is written into another block is nothing to it. -/
theorem OutAt.tabFar {w : World} {B g : Nat} {c s : Int} {m : List Nat} {rows : List (List Int)} {tags : List Int} (h : OutAt w B g c s m rows tags) (hm : m.length = 256) (hb : ∀ n ∈ m, n < 256) {k : Nat} (hk : k < g) (cs : Array Value) : ∃ tu, Blk w g 26 tu ∧ TbR w tu ⟨c, s, m, rows, tags⟩ ∧ TbR (w.setRow k cs) tu ⟨c, s, m, rows, tags⟩ := by
  obtain ⟨vn, vt, vs, h1, h2, h3, h4, h5, h6⟩ := h
  have o3 := own_row h3 (g := k) (fun e => by have := (h3.lt _ e).1; omega) cs
  have o4 := own_row h4 (g := k) (fun e => by have := (h4.lt _ e).1; omega) cs
  have o6 : ∀ i (h : i < rows.length) (h' : i < vs.length), (w.setRow k cs).ownsRow B 3 1 vs[i] rows[i].length (ints rows[i]) ∧ (vs[i].ownBlock = none ∨ vs[i].ownBlock ≠ vt.ownBlock) := fun i a b =>
    ⟨own_row (h6 i a b).1 (g := k) (fun e => by have := ((h6 i a b).1.lt _ e).1; omega) cs, (h6 i a b).2⟩
  have H : OutAt w B g c s m rows tags := ⟨vn, vt, vs, h1, h2, h3, h4, h5, h6⟩
  have H' : OutAt (w.setRow k cs) B g c s m rows tags := ⟨vn, vt, vs, h1.rowFar (by omega) cs, h2, o3, o4, h5, o6⟩
  obtain ⟨tu, a, b⟩ := H.tab hm hb
  obtain ⟨tu', a', b'⟩ := H'.tab hm hb
  have e : tu = tu' := by
    have x := a.rowFar (k := k) (by omega) cs
    unfold Blk at x a'
    rw [x] at a'
    injection a' with a'
    injection a'
  subst e
  exact ⟨tu, a, b, b'⟩
theorem OutAt.row {w : World} {B g : Nat} {c s : Int} {m : List Nat} {rows : List (List Int)} {tags : List Int} (h : OutAt w B g c s m rows tags) {k : Nat} (hk : k < g) (cs : Array Value) : OutAt (w.setRow k cs) B g c s m rows tags := by
  obtain ⟨vn, vt, vs, h1, h2, h3, h4, h5, h6⟩ := h
  exact ⟨vn, vt, vs, h1.rowFar (by omega) cs, h2, own_row h3 (g := k) (fun e => by have := (h3.lt _ e).1; omega) cs, own_row h4 (g := k) (fun e => by have := (h4.lt _ e).1; omega) cs, h5, fun i a b =>
    ⟨own_row (h6 i a b).1 (g := k) (fun e => by have := ((h6 i a b).1.lt _ e).1; omega) cs, (h6 i a b).2⟩⟩
/-- So it is when two blocks are written. -/
theorem OutAt.tabFar2 {w : World} {B g : Nat} {c s : Int} {m : List Nat} {rows : List (List Int)} {tags : List Int} (h : OutAt w B g c s m rows tags) (hm : m.length = 256) (hb : ∀ n ∈ m, n < 256) {tu : Array Value} (ht : Blk w g 26 tu) {k k' : Nat} (hk : k < g) (hk' : k' < g) (cs cs' : Array Value) :
    TbR ((w.setRow k cs).setRow k' cs') tu ⟨c, s, m, rows, tags⟩ := by
  obtain ⟨tu', a, _, b⟩ := (h.row hk cs).tabFar hm hb hk' cs'
  have x := ht.rowFar (k := k) (by omega) cs
  unfold Blk at x a
  rw [x] at a
  injection a with a
  injection a with a
  rw [a]; exact b
end Go.Proofs.Ytafcnehinanecaa
