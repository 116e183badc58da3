/- Rows of rows that grow: a row's block is as it was, or new. -/
import Derived.Test.YtafcnehinanecaaTabRun2
import Derived.Test.YtafcnehinanecaaTabUse
namespace Go.Proofs.Ytafcnehinanecaa
open Go.RowKit
section
variable {P : Program} (w : World)
theorem append_where (base : Nat) (t ty e : TypeId) (i : TypeInfo) (z : Value) (size bytes : Nat) (ht : P.underlying t = some (.slice e)) (hi : P.info? e = some i) (hz : i.zero = some z)
    (hsize : i.size = size) (hby : i.bytes = bytes) (hzs : z.cells.size = size) (hsz : 0 < size)
    (v : Value) (n : Nat) (xs : List Value) (hown : w.ownsRow base e size v n xs)
    (a : Addr) (m c : Nat) (news : List Value) (hl : news.length = m * size) (hnews : ∀ j u, news[j]? = some u → w.cell? (a.add j) = some u) (h1 : ∀ u ∈ news, u.oneCell' = true)
    (h63 : n + m ≤ maxLen) (hbytes : (n + m) * bytes ≤ 140737488355328) (hbase : base ≤ w.heap.size) :
    ∃ v' w', (Builtin.append_ #[t, t] ty #[v, .slice (some a) m c]).run P w = .ok v' w' ∧ w'.ownsRow base e size v' (n + m) (xs ++ news) ∧ w.grownBy w' v.ownBlock ∧ (v'.ownBlock = v.ownBlock ∨ ∀ k, v'.ownBlock = some k → w.heap.size ≤ k) := by
  obtain ⟨v', w', hr, ho, hg, _⟩ := run_append_own (P := P) w base t ty e i z size bytes ht hi hz hsize hby hzs hsz v n xs hown a m c news hl hnews h1 h63 hbytes hbase
  refine ⟨v', w', hr, ho, hg, ?_⟩
  rcases hown.2 with ⟨hv, hn⟩ | ⟨g, cap, cur, hv, hbg, hgg, hnc, hcm, hcs, htake⟩
  · have hown2 : w.ownsRow w.heap.size e size v n xs := ⟨hown.1, .inl ⟨hv, hn⟩⟩
    obtain ⟨v2, w2, hr2, ho2, _, _⟩ := run_append_own (P := P) w w.heap.size t ty e i z size bytes ht hi hz hsize hby hzs hsz v n xs hown2 a m c news hl hnews h1 h63 hbytes (Nat.le_refl _)
    rw [hr] at hr2
    injection hr2 with e1 e2
    subst e1 e2
    exact .inr fun k hk => (ho2.lt k hk).1
  · subst hsize
    subst hv
    by_cases hroom : n + m ≤ cap
    · have hfit : n * i.size + news.length ≤ cur.size := by rw [hl, hcs, ← Nat.add_mul]; exact Nat.mul_le_mul_right _ hroom
      have hr2 := run_append_room (P := P) w t ty e i ht hi g n cap cur hgg a m c news hl hnews h1 hroom hfit
      rw [hr] at hr2
      injection hr2 with e1 e2
      exact .inl (by rw [e1]; rfl)
    · have holds : ∀ j u, xs[j]? = some u → w.cell? ((⟨g, 0, none⟩ : Addr).add j) = some u := hown.cells (g := g) rfl
      have hsmall : n + m ≤ 9223372036854775807 := by simp only [maxLen] at h63; omega
      subst hby
      have hr2 := run_append_grow (P := P) w t ty e i z ht hi hz ⟨g, 0, none⟩ n cap xs hown.1 holds a m c news hl hnews (by omega) (by omega) (growslice_fits (by omega) hbytes)
      rw [hr] at hr2
      injection hr2 with e1 e2
      exact .inr fun k hk => by rw [e1] at hk; exact Nat.le_of_eq (Option.some.inj hk)
end
theorem wp_grow {o : Oper} {a : Act} {K : Act → World → Prop} {Q : Exit → Act → World → Prop} {w : World} (t e : TypeId) (s x : Operand)
    (ho : o.op = .call { callee := .builtin .append, args := #[s, x], argTypes := #[t, t] }) (i : TypeInfo) (z : Value) (bytes : Nat) (ht : Try.prog.underlying t = some (.slice e)) (hi : Try.prog.info? e = some i) (hz : i.zero = some z)
    (hsize : i.size = 1) (hby : i.bytes = bytes) (hzs : z.cells.size = 1) (hb32 : bytes ≤ 32) (B : Nat) (xs : List Value) (u : Value) (hu : u.oneCell' = true) (v : Value) (n : Nat)
    (hs : a.eval s = v) (hown : w.ownsRow B e 1 v n xs) (hx : a.eval x = .slice (some ⟨w.heap.size, 0, none⟩) 1 1) (hl : n ≤ 1000000) (hB : B ≤ w.heap.size)
    (h : ∀ v' w', w'.ownsRow B e 1 v' (n + 1) (xs ++ [u]) → w.grownBy w' v.ownBlock → Below B w w' → (v'.ownBlock = v.ownBlock ∨ ∀ k, v'.ownBlock = some k → w.heap.size ≤ k) → K (a.put o.dst v') w') : Oper.wp Try.prog o a (w.alloc (.cells #[u] e)) K Q := by
  have hle : (n + 1) * bytes ≤ 140737488355328 := Nat.le_trans (Nat.mul_le_mul (show n + 1 ≤ 1000001 by omega) hb32) (by decide)
  obtain ⟨v', w', hr, hown', hgrow, hwh⟩ := append_where (P := Try.prog) (w.alloc (.cells #[u] e)) B t o.type e i z 1 bytes ht hi hz hsize hby hzs (by decide) v n xs (hown.alloc _) ⟨w.heap.size, 0, none⟩ 1 1 [u] rfl (by
    intro j y hy
    have := (Blk.made w e #[u]).cell j
    rw [show (⟨w.heap.size, 0, none⟩ : Addr).add j = ⟨w.heap.size, j, none⟩ from by rw [Addr.add_mid]; simp]
    rw [this]; simpa using hy) (by intro y hy; rw [List.mem_singleton] at hy; subst hy; exact hu) (by unfold maxLen; omega) hle (by rw [World.size_alloc]; omega)
  unfold Oper.wp execOp
  simp only [ho, resolve, invoke, builtin, Sem.run_bind, Sem.run_pure, Result.andThen_ok, List.map_toArray, List.map_cons, List.map_nil, hs, hx, hr]
  refine (h v' w' hown' ⟨hgrow.os, hgrow.tape, hgrow.output, Nat.le_trans (by rw [World.size_alloc]; omega) hgrow.size, fun k hk hne => (hgrow.block k (by rw [World.size_alloc]; omega) hne).trans (heap_alloc_old _ _ hk)⟩ (Below.ofGrown ((below_alloc (Below.refl _ w) _).mono hB) (hown.alloc _) hgrow (Nat.le_refl _) (by rw [World.size_alloc]; omega)) (hwh.imp id fun hk k h => by have := hk k h; rw [World.size_alloc] at this; omega))
theorem wpList_grow {ops : Array Oper} {rest : List Oper} {o : Oper} {a : Act} {Q : Exit → Act → World → Prop} {w : World} (hgd : o.guard = none) (t e : TypeId) (s x : Operand)
    (ho : o.op = .call { callee := .builtin .append, args := #[s, x], argTypes := #[t, t] }) (i : TypeInfo) (z : Value) (bytes : Nat) (ht : Try.prog.underlying t = some (.slice e)) (hi : Try.prog.info? e = some i) (hz : i.zero = some z)
    (hsize : i.size = 1) (hby : i.bytes = bytes) (hzs : z.cells.size = 1) (hb32 : bytes ≤ 32) (B : Nat) (xs : List Value) (u : Value) (hu : u.oneCell' = true) (v : Value) (n : Nat)
    (hs : a.eval s = v) (hown : w.ownsRow B e 1 v n xs) (hx : a.eval x = .slice (some ⟨w.heap.size, 0, none⟩) 1 1) (hl : n ≤ 1000000) (hB : B ≤ w.heap.size)
    (h : ∀ v' w', w'.ownsRow B e 1 v' (n + 1) (xs ++ [u]) → w.grownBy w' v.ownBlock → Below B w w' → (v'.ownBlock = v.ownBlock ∨ ∀ k, v'.ownBlock = some k → w.heap.size ≤ k) → wpList Try.prog ops Q rest (a.put o.dst v') w') : wpList Try.prog ops Q (o :: rest) a (w.alloc (.cells #[u] e)) := by
  exact wpList_plain hgd fun _ hK => wp_grow t e s x ho i z bytes ht hi hz hsize hby hzs hb32 B xs u hu v n hs hown hx hl hB fun v' w' h1 h2 h3 h4 => hK _ _ (h v' w' h1 h2 h3 h4)
theorem info_ints : (Try.prog.info? 24).map (fun i => (i.zero, i.size, i.bytes)) = some (some (.slice none 0 0), 1, 24) := by kernel_rfl
/-- A table that is being made: its cells in block g, its rows and tags in blocks of their own. -/
def OutAt (w : World) (B g : Nat) (c s : Int) (m : List Nat) (rows : List (List Int)) (tags : List Int) : Prop :=
  ∃ vn vt vs, Blk w g 26 (tbCs c s m vn vt) ∧ g < B ∧ w.ownsRow B 24 1 vn rows.length vs ∧ w.ownsRow B 3 1 vt tags.length (ints tags) ∧ vs.length = rows.length ∧
    ∀ i (h : i < rows.length) (h' : i < vs.length), w.ownsRow B 3 1 vs[i] rows[i].length (ints rows[i]) ∧ (vs[i].ownBlock = none ∨ vs[i].ownBlock ≠ vt.ownBlock)
theorem own_types {w : World} {B B' e e' size size' n n' : Nat} {v v' : Value} {xs xs' : List Value} (h : w.ownsRow B e size v n xs) (h' : w.ownsRow B' e' size' v' n' xs') (hne : e ≠ e') : v.ownBlock = none ∨ v.ownBlock ≠ v'.ownBlock := by
  rcases h.2 with ⟨rfl, _⟩ | ⟨g, cap, cur, rfl, _, hg, _⟩
  · exact .inl rfl
  · refine .inr fun e1 => ?_
    rcases h'.2 with ⟨rfl, _⟩ | ⟨g', cap', cur', rfl, _, hg', _⟩
    · cases e1
    · have : g = g' := by injection e1
      subst this
      rw [hg] at hg'
      injection hg' with hg'
      injection hg' with _ hg' _
      exact hne hg'
theorem OutAt.below {w w' : World} {B g : Nat} {c s : Int} {m : List Nat} {rows : List (List Int)} {tags : List Int} (h : OutAt w B g c s m rows tags) (k : Below w.heap.size w w') : OutAt w' B g c s m rows tags := by
  obtain ⟨vn, vt, vs, h1, h2, h3, h4, h5, h6⟩ := h
  exact ⟨vn, vt, vs, h1.below k, h2, own_below h3 k, own_below h4 k, h5, fun i a b => ⟨own_below (h6 i a b).1 k, (h6 i a b).2⟩⟩
theorem OutAt.tab {w : World} {B g : Nat} {c s : Int} {m : List Nat} {rows : List (List Int)} {tags : List Int} (h : OutAt w B g c s m rows tags) (hm : m.length = 256) (hb : ∀ n ∈ m, n < 256) : ∃ tu, Blk w g 26 tu ∧ TbR w tu ⟨c, s, m, rows, tags⟩ := by
  obtain ⟨vn, vt, vs, h1, h2, h3, h4, h5, h6⟩ := h
  refine ⟨_, h1, hm, hb, vn, vt, rfl, ?_, (IntsAt.own h4).mono (Nat.zero_le _)⟩
  rcases h3.2 with ⟨rfl, h0⟩ | ⟨g', cap, cur, rfl, _, hg, _⟩
  · exact ⟨none, 0, by rw [h0], fun h => absurd h (by rw [h0]; omega)⟩
  · refine ⟨_, cap, rfl, fun _ => ⟨g', 0, rfl, (Array.getElem?_eq_some_iff.1 hg).1, fun i hi => ?_⟩⟩
    have hi' : i < rows.length := hi
    refine ⟨vs[i]'(by omega), ?_, (IntsAt.own (h6 i hi' (by omega)).1).mono (Nat.zero_le _)⟩
    rw [Nat.zero_add, h3.cellAt i (by omega), List.getElem?_eq_getElem (by omega)]
theorem OutAt.start {w : World} {B g : Nat} {c s : Int} {m : List Nat} (h : Blk w g 26 (tbCs c s m (.slice none 0 0) (.slice none 0 0))) (hg : g < B) : OutAt w B g c s m [] [] :=
  ⟨_, _, [], h, hg, World.ownsRow_nil _ _ _ _, World.ownsRow_nil _ _ _ _, rfl, fun _ h => nomatch h⟩
end Go.Proofs.Ytafcnehinanecaa
