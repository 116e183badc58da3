/- The law's awake. -/
import Derived.Test.YtafcnehinanecaaLvAw
namespace Go.Proofs.Ytafcnehinanecaa
open Go.RowKit
theorem box_store {w : World} {tv : Array Value} {T : Tb} (h : TbR w tv T) : (storeCells ⟨w.heap.size, 0, none⟩ tv.toList).run Try.prog (w.alloc (.cells Z0v 26)) = .ok () ((w.alloc (.cells Z0v 26)).setRow w.heap.size tv) ∧
    Blk ((w.alloc (.cells Z0v 26)).setRow w.heap.size tv) w.heap.size 26 tv ∧ Below w.heap.size w ((w.alloc (.cells Z0v 26)).setRow w.heap.size tv) :=
  ⟨store_tab (Blk.made w 26 Z0v) z0_size h.size h.one, Blk.row (Blk.made w 26 Z0v) tv, below_row (below_alloc (Below.refl _ _) _) (Nat.le_refl _) tv⟩
theorem ints_made (w : World) (l : List Int) : IntsAt (w.alloc (.cells (ints l).toArray 3)) 0 (.slice (some ⟨w.heap.size, 0, none⟩) l.length l.length) l :=
  ⟨_, _, rfl, fun e => (nomatch e), fun _ => ⟨w.heap.size, 0, rfl, Nat.zero_le _, by rw [World.size_alloc]; omega, fun i hi => by
    rw [Nat.zero_add, (Blk.made w 3 (ints l).toArray).cell i]
    unfold ints
    rw [List.getElem?_toArray, List.getElem?_map, List.getElem?_eq_getElem hi]; rfl⟩⟩
theorem tab_len (tv : Array Value) (h : tv.size = 260) : (Try.prog.info? 26).map (·.size) = some tv.toList.length := by rw [Array.length_toList, h]; exact info_tab
def awW (w : World) : World := (((((w.alloc (Obj.cells #[Value.int IntKind.i64 1, Value.int IntKind.i64 2] 3)).alloc (Obj.cells #[Value.int IntKind.i64 1, Value.int IntKind.i64 1] 3)).alloc (Obj.cells #[Value.int IntKind.i64 3, Value.int IntKind.i64 0] 3)).alloc (Obj.cells #[Value.int IntKind.i64 (-1), Value.int IntKind.i64 3] 3)).alloc
          (Obj.cells #[Value.slice (some { block := w.heap.size, off := 0 }) 2 2, Value.slice (some { block := w.heap.size + 1, off := 0 }) 2 2, Value.slice (some { block := w.heap.size + 1 + 1, off := 0 }) 2 2, Value.slice (some { block := w.heap.size + 1 + 1 + 1, off := 0 }) 2 2] 24)).alloc
      (Obj.cells #[Value.int IntKind.i64 (-1), Value.int IntKind.i64 (-1), Value.int IntKind.i64 0, Value.int IntKind.i64 (-1)] 3)
theorem aw_rows (w : World) : RowsR (awW w) (.slice (some ⟨w.heap.size + 1 + 1 + 1 + 1, 0, none⟩) 4 4) T1.next ∧ IntsAt (awW w) 0 (.slice (some ⟨w.heap.size + 1 + 1 + 1 + 1 + 1, 0, none⟩) 4 4) T1.tag ∧ Below w.heap.size w (awW w) := by
  unfold awW
  have r0 := ints_made w [1, 2]
  have k0 := below_alloc (Below.refl w.heap.size w) (Obj.cells #[Value.int IntKind.i64 1, Value.int IntKind.i64 2] 3)
  have s0 : (w.alloc (Obj.cells #[Value.int IntKind.i64 1, Value.int IntKind.i64 2] 3)).heap.size = w.heap.size + 1 := World.size_alloc ..
  change IntsAt (w.alloc (Obj.cells #[Value.int IntKind.i64 1, Value.int IntKind.i64 2] 3)) 0 (.slice (some ⟨w.heap.size, 0, none⟩) 2 2) [1, 2] at r0
  generalize w.alloc (Obj.cells #[Value.int IntKind.i64 1, Value.int IntKind.i64 2] 3) = w1 at *
  have r1 := ints_made w1 [1, 1]
  have k1 := below_alloc (Below.refl w1.heap.size w1) (Obj.cells #[Value.int IntKind.i64 1, Value.int IntKind.i64 1] 3)
  have s1 : (w1.alloc (Obj.cells #[Value.int IntKind.i64 1, Value.int IntKind.i64 1] 3)).heap.size = w1.heap.size + 1 := World.size_alloc ..
  change IntsAt (w1.alloc (Obj.cells #[Value.int IntKind.i64 1, Value.int IntKind.i64 1] 3)) 0 (.slice (some ⟨w1.heap.size, 0, none⟩) 2 2) [1, 1] at r1
  generalize w1.alloc (Obj.cells #[Value.int IntKind.i64 1, Value.int IntKind.i64 1] 3) = w2 at *
  have r2 := ints_made w2 [3, 0]
  have k2 := below_alloc (Below.refl w2.heap.size w2) (Obj.cells #[Value.int IntKind.i64 3, Value.int IntKind.i64 0] 3)
  have s2 : (w2.alloc (Obj.cells #[Value.int IntKind.i64 3, Value.int IntKind.i64 0] 3)).heap.size = w2.heap.size + 1 := World.size_alloc ..
  change IntsAt (w2.alloc (Obj.cells #[Value.int IntKind.i64 3, Value.int IntKind.i64 0] 3)) 0 (.slice (some ⟨w2.heap.size, 0, none⟩) 2 2) [3, 0] at r2
  generalize w2.alloc (Obj.cells #[Value.int IntKind.i64 3, Value.int IntKind.i64 0] 3) = w3 at *
  have r3 := ints_made w3 [-1, 3]
  have k3 := below_alloc (Below.refl w3.heap.size w3) (Obj.cells #[Value.int IntKind.i64 (-1), Value.int IntKind.i64 3] 3)
  have s3 : (w3.alloc (Obj.cells #[Value.int IntKind.i64 (-1), Value.int IntKind.i64 3] 3)).heap.size = w3.heap.size + 1 := World.size_alloc ..
  change IntsAt (w3.alloc (Obj.cells #[Value.int IntKind.i64 (-1), Value.int IntKind.i64 3] 3)) 0 (.slice (some ⟨w3.heap.size, 0, none⟩) 2 2) [-1, 3] at r3
  generalize w3.alloc (Obj.cells #[Value.int IntKind.i64 (-1), Value.int IntKind.i64 3] 3) = w4 at *
  rw [← s0, ← s1, ← s2, ← s3]
  generalize hcs : #[Value.slice (some { block := w.heap.size, off := 0 }) 2 2, Value.slice (some { block := w1.heap.size, off := 0 }) 2 2, Value.slice (some { block := w2.heap.size, off := 0 }) 2 2, Value.slice (some { block := w3.heap.size, off := 0 }) 2 2] = cs
  have k4 := below_alloc (Below.refl w4.heap.size w4) (Obj.cells cs 24)
  have s4 : (w4.alloc (Obj.cells cs 24)).heap.size = w4.heap.size + 1 := World.size_alloc ..
  have bm := Blk.made w4 24 cs
  rw [← s4]
  generalize w4.alloc (Obj.cells cs 24) = w5 at *
  have r5 := ints_made w5 [-1, -1, 0, -1]
  have k5 := below_alloc (Below.refl w5.heap.size w5) (Obj.cells #[Value.int IntKind.i64 (-1), Value.int IntKind.i64 (-1), Value.int IntKind.i64 0, Value.int IntKind.i64 (-1)] 3)
  refine ⟨?_, r5, below_step (below_step (below_step (below_step (below_step k0 k1) k2) k3) k4) k5⟩
  have q3 := r3.below (below_step k4 k5)
  have q2 := r2.below (below_step (below_step k3 k4) k5)
  have q1 := r1.below (below_step (below_step (below_step k2 k3) k4) k5)
  have q0 := r0.below (below_step (below_step (below_step (below_step k1 k2) k3) k4) k5)
  have qb := bm.below k5
  refine ⟨_, 4, rfl, fun _ => ⟨w4.heap.size, 0, rfl, by have := qb.lt; exact this, fun i hi => ?_⟩⟩
  have hi : i < 4 := hi
  have hc := qb.cell i
  rw [Nat.zero_add, hc, ← hcs]
  match i, hi with
  | 0, _ => exact ⟨_, rfl, q0⟩
  | 1, _ => exact ⟨_, rfl, q1⟩
  | 2, _ => exact ⟨_, rfl, q2⟩
  | 3, _ => exact ⟨_, rfl, q3⟩
theorem tab_two {w : World} {b : Nat} {tv : Array Value} {s x y z u t0 t1 : Int} {m : List Nat} (hb : Blk w b 26 tv) (h : TbR w tv ⟨2, s, m, [[x, y], [z, u]], [t0, t1]⟩) : ∃ nb no nc r0b r0o r0c r1b r1o r1c tb to' tc,
    w.cell? ⟨b, 1, none⟩ = some (.int .i64 s) ∧ w.cell? ⟨b, 258, none⟩ = some (.slice (some ⟨nb, no, none⟩) 2 nc) ∧ w.cell? ⟨b, 259, none⟩ = some (.slice (some ⟨tb, to', none⟩) 2 tc) ∧
    w.cell? ⟨nb, no, none⟩ = some (.slice (some ⟨r0b, r0o, none⟩) 2 r0c) ∧ w.cell? ⟨nb, no + 1, none⟩ = some (.slice (some ⟨r1b, r1o, none⟩) 2 r1c) ∧
    w.cell? ⟨r0b, r0o, none⟩ = some (.int .i64 x) ∧ w.cell? ⟨r0b, r0o + 1, none⟩ = some (.int .i64 y) ∧ w.cell? ⟨r1b, r1o, none⟩ = some (.int .i64 z) ∧ w.cell? ⟨r1b, r1o + 1, none⟩ = some (.int .i64 u) ∧ w.cell? ⟨tb, to' + 1, none⟩ = some (.int .i64 t1) := by
  obtain ⟨c0, c1, cr, an, cn, at_, ct, c3, c4, hra, hta⟩ := TbAt.cells (w := w) (b := b) (T := ⟨2, s, m, [[x, y], [z, u]], [t0, t1]⟩) ⟨h.len, h.byte, tv, hb, h⟩
  obtain ⟨nb, no, A, rc, rfl, _, e0, i0⟩ := hra.at_ (i := 0) (show 0 < 2 by omega)
  obtain ⟨nb', no', A', rc', h', _, e1, i1⟩ := hra.at_ (i := 1) (show 1 < 2 by omega)
  injection h' with h'
  injection h' with h1 h2
  subst h1 h2
  obtain ⟨r0b, r0o, rfl, _, x0⟩ := i0.at_ (i := 0) (show 0 < 2 by omega)
  obtain ⟨_, _, h', _, x1⟩ := i0.at_ (i := 1) (show 1 < 2 by omega)
  injection h' with h'
  injection h' with h1 h2
  subst h1 h2
  obtain ⟨r1b, r1o, rfl, _, y0⟩ := i1.at_ (i := 0) (show 0 < 2 by omega)
  obtain ⟨_, _, h', _, y1⟩ := i1.at_ (i := 1) (show 1 < 2 by omega)
  injection h' with h'
  injection h' with h1 h2
  subst h1 h2
  obtain ⟨tb, to', rfl, _, q1⟩ := hta.at_ (i := 1) (show 1 < 2 by omega)
  exact ⟨nb, no, cn, r0b, r0o, rc, r1b, r1o, rc', tb, to', ct, c1, c3, c4, e0, e1, x0, x1, y0, y1, q1⟩
theorem wp_tabG {dst : Option Nat} {x : Operand} {ty : TypeId} {pos : String} {after : Array Edge} {g : Option (Nat × Bool)} {a : Act} {w : World} {K : Act → World → Prop} {Q : Exit → Act → World → Prop} (b : Nat) (hx : a.eval x = .pointer (some ⟨b, 0, none⟩)) (tv : Array Value)
    (hc : w.rangeAt b 0 tv.toList) (hi : (Try.prog.info? 26).map (·.size) = some tv.toList.length) (h : K (a.put dst (.agg tv)) w) :
    Oper.wp Try.prog { dst := dst, op := .load 26 x, type := ty, pos := pos, after := after, guard := g } a w K Q :=
  wp_load_mid 26 x rfl b 0 hx tv.toList _ hc Try.underlying26 rfl hi (by rw [Array.toArray_toList]; exact h)
theorem wpL_tabW {ops : Array Oper} {rest : List Oper} {dst : Option Nat} {x : Operand} {ty : TypeId} {pos : String} {after : Array Edge} {g : Nat × Bool} {a : Act} {w : World} {Q : Exit → Act → World → Prop} (hw : Region.wanted { dst := dst, op := .load 26 x, type := ty, pos := pos, after := after, guard := some g } (yielded ops a.tmps) = true) (b : Nat) (hx : a.eval x = .pointer (some ⟨b, 0, none⟩)) (tv : Array Value)
    (hc : w.rangeAt b 0 tv.toList) (hi : (Try.prog.info? 26).map (·.size) = some tv.toList.length) (h : wpList Try.prog ops Q rest (a.put dst (.agg tv)) w) :
    wpList Try.prog ops Q ({ dst := dst, op := .load 26 x, type := ty, pos := pos, after := after, guard := some g } :: rest) a w := by
  rw [wpList, if_pos hw]
  exact .inl (wp_tabG b hx tv hc hi h)
attribute [local irreducible] Calls
set_option maxHeartbeats 8000000 in
set_option maxRecDepth 100000 in
theorem awake_c (w : World) : Calls Try.prog 7 #[] w fun e w' => e = .returned (.bool true) ∧ Below w.heap.size w w' := by
  have Z := (zero_of_info z0_info).1
  have ZB := z0_build
  have hzz := z0_size
  have hne : ¬ Z0v = #[] := fun e => by have := z0_size; rw [e] at this; exact nomatch this
  go_enter Try.func7, Try.ntmps7
  go_wp2_with fail
  obtain ⟨hr, hi, hb⟩ := aw_rows w
  refine (small_c _ _ _ _ (awW w) hr hi).mono ?_
  clear hr hi
  generalize awW w = wA at *
  rintro e w1 ⟨t1v, rfl, ht, k1⟩
  have W1 := Lib.hid (below_step hb k1)
  have z1 := ht.size
  obtain ⟨ST, hblk, k2⟩ := box_store ht
  have HT := Lib.hid (show TbR _ t1v T1 from ht.below k2)
  have B1 := Lib.hid hblk
  have W2 := Lib.hid (below_step W1.out k2)
  clear hb k1 ht hblk k2
  go_upto_region 2 with fail
  clear ST
  generalize hg1 : w1.heap.size = b1 at *
  clear hg1
  generalize (w1.alloc (.cells Z0v 26)).setRow b1 t1v = w2 at *
  have RG := Lib.hid (Blk.range B1.out)
  have SL := Lib.hid (tab_len t1v z1)
  go_wp2_with (refine wpL_tab b1 rfl t1v RG.out SL.out ?_)
  refine (ltrim_c t1v T1 t1_right _ HT.out).mono ?_
  rintro e w3 ⟨uv, rfl, hu, k3⟩
  rw [t1_trim] at hu
  have zu := hu.size
  obtain ⟨ST, hblk, k2⟩ := box_store hu
  have HT3 := Lib.hid (HT.out.below (below_step k3 k2))
  have B13 := Lib.hid (B1.out.below (below_step k3 k2))
  have HU := Lib.hid (hu.below k2)
  have BU := Lib.hid hblk
  have W3 := Lib.hid (below_step (below_step W2.out k3) k2)
  clear hu k3 hblk k2 RG HT B1
  go_upto_region 3 with fail
  clear ST
  generalize hg1 : w3.heap.size = bu at *
  clear hg1
  generalize (w3.alloc (.cells Z0v 26)).setRow bu uv = w4 at *
  go_wp2_with fail
  refine (ltrim_no Z0v T0 t0_wrong _ (z0_tab _)).mono ?_
  rintro e w5 ⟨rfl, k3⟩
  obtain ⟨ST, hblk, k2⟩ := box_store (z0_tab w5)
  have HT5 := Lib.hid (HT3.out.below (below_step k3 k2))
  have B15 := Lib.hid (B13.out.below (below_step k3 k2))
  have HU5 := Lib.hid (HU.out.below (below_step k3 k2))
  have BU5 := Lib.hid (BU.out.below (below_step k3 k2))
  have W5 := Lib.hid (below_step (below_step W3.out k3) k2)
  clear k3 hblk k2 HT3 B13 HU BU
  go_upto_region 4 with fail
  clear ST
  generalize hg1 : w5.heap.size = b4 at *
  clear hg1
  generalize (w5.alloc (.cells Z0v 26)).setRow b4 Z0v = w6 at *
  have RG := Lib.hid (Blk.range B15.out)
  go_wp2_with (refine wpL_tab b1 rfl t1v RG.out SL.out ?_)
  have k0 := below_alloc (Below.refl w6.heap.size w6) (Obj.cells #[Value.int IntKind.i64 2, Value.int IntKind.i64 0] 3)
  refine (lnumb_c t1v T1 [2, 0] (by decide) (by decide) _ _ (HT5.out.below k0) (ints_made w6 [2, 0])).mono ?_
  rintro e w7 ⟨nv, cn, rfl, hcase, k3⟩
  obtain ⟨rfl, hn⟩ : cn = 0 ∧ TbR w7 nv (numberT T1 [2, 0]) := by
    rcases hcase with ⟨_, _, a, b, _⟩ | ⟨a, _, _⟩
    · exact ⟨a, b⟩
    · exact absurd ⟨t1_right, t1_may⟩ a
  rw [t1_number] at hn
  clear hcase
  have zn := hn.size
  have k3 := below_step k0 k3
  clear k0
  obtain ⟨ST, hblk, k2⟩ := box_store hn
  have HT7 := Lib.hid (HT5.out.below (below_step k3 k2))
  have B17 := Lib.hid (B15.out.below (below_step k3 k2))
  have HU7 := Lib.hid (HU5.out.below (below_step k3 k2))
  have BU7 := Lib.hid (BU5.out.below (below_step k3 k2))
  have HN7 := Lib.hid (hn.below k2)
  have BN7 := Lib.hid hblk
  have W7 := Lib.hid (below_step (below_step W5.out k3) k2)
  clear k3 hblk k2 HT5 B15 HU5 BU5 hn RG
  go_upto_region 5 with fail
  clear ST
  generalize hg1 : w7.heap.size = bn at *
  clear hg1
  generalize (w7.alloc (.cells Z0v 26)).setRow bn nv = w8 at *
  have RG := Lib.hid (Blk.range B17.out)
  go_wp2_with (refine wpL_tab b1 rfl t1v RG.out SL.out ?_)
  have k0 := below_alloc (Below.refl w8.heap.size w8) (Obj.cells #[Value.int IntKind.i64 1] 3)
  refine (lnumb_c t1v T1 [1] (by decide) (by decide) _ _ (HT7.out.below k0) (ints_made w8 [1])).mono ?_
  rintro e w9 ⟨ov, co, rfl, hcase, k3⟩
  obtain ⟨rfl, rfl⟩ : co = 1 ∧ ov = Z0v := by
    rcases hcase with ⟨_, a, _, _⟩ | ⟨_, a, b⟩
    · exact absurd a t1_may1
    · exact ⟨a, b⟩
  clear hcase
  have k3 := below_step k0 k3
  clear k0
  obtain ⟨ST, hblk, k2⟩ := box_store (z0_tab w9)
  have HT9 := Lib.hid (HT7.out.below (below_step k3 k2))
  have B19 := Lib.hid (B17.out.below (below_step k3 k2))
  have HU9 := (HU7.out.below (below_step k3 k2))
  have BU9 := (BU7.out.below (below_step k3 k2))
  have HN9 := (HN7.out.below (below_step k3 k2))
  have BN9 := (BN7.out.below (below_step k3 k2))
  have W9 := Lib.hid (below_step (below_step W7.out k3) k2)
  clear k3 hblk k2 HT7 B17 HU7 BU7 HN7 BN7 RG
  obtain ⟨nb, no, nc, r0b, r0o, r0c, r1b, r1o, r1c, tb, to', tc, u1, u2, u3, u4, u5, u6, u7, u8, u9, u10⟩ := tab_two BU9 HU9
  obtain ⟨mb, mo, mc, s0b, s0o, s0c, s1b, s1o, s1c, ub, uo, uc, v1, v2, v3, v4, v5, v6, v7, v8, v9, v10⟩ := tab_two BN9 HN9
  clear BU9 HU9 BN9 HN9 u1 u8 v3 v5 v6 v8 v9 v10
  have RG := Lib.hid (Blk.range B19.out)
  go_wp2_with (refine wpL_tabW (by rfl) b1 rfl t1v RG.out SL.out ?_)
  have HTx := Lib.hid HT9.out
  have Bx := Lib.hid B19.out
  have Wx := Lib.hid W9.out
  clear HT9 B19 W9 RG u2 u3 u4 u5 u6 u7 u9 u10 v1 v2 v4 v7
  refine (lreached_c t1v T1 t1_right _ HTx.out).mono ?_
  rintro e wy ⟨l0, rfl, ho, kx⟩
  rw [t1_order, t1_sort] at ho
  have ka := below_alloc (Below.refl wy.heap.size wy) (.cells (ints [0, 1, 2, 3]).toArray 3)
  have SX := same_refl [0, 1, 2, 3] (by decide) _ _ _ (((IntsAt.own ho).mono (Nat.zero_le _)).below ka) (ints_made wy [0, 1, 2, 3])
  change Calls Try.prog 16 #[l0, .slice (some ⟨wy.heap.size, 0, none⟩) 4 4] (wy.alloc (.cells #[.int .i64 0, .int .i64 1, .int .i64 2, .int .i64 3] 3)) _ at SX
  have SX := Lib.hid SX
  have HTx := Lib.hid (HTx.out.below (below_step kx ka))
  have Bx := Lib.hid (Bx.out.below (below_step kx ka))
  have Wx := Lib.hid (below_step Wx.out (below_step kx ka))
  clear ho kx ka
  go_wp2_with fail
  refine SX.out.mono ?_
  rintro e wz ⟨rfl, kz⟩
  have HTx := Lib.hid (HTx.out.below kz)
  have Bx := Lib.hid (Bx.out.below kz)
  have Wx := Lib.hid (below_step Wx.out kz)
  clear kz SX
  have RG := Lib.hid (Blk.range Bx.out)
  go_wp2_with (refine wpL_tabW (by rfl) b1 rfl t1v RG.out SL.out ?_)
  clear RG
  refine (lusefull_c t1v T1 t1_right _ HTx.out).mono ?_
  rintro e wy ⟨l1, rfl, ho, kx⟩
  rw [t1_useful] at ho
  have ka := below_alloc (Below.refl wy.heap.size wy) (.cells (ints [0, 2]).toArray 3)
  have SX := same_refl [0, 2] (by decide) _ _ _ (((IntsAt.own ho).mono (Nat.zero_le _)).below ka) (ints_made wy [0, 2])
  change Calls Try.prog 16 #[l1, .slice (some ⟨wy.heap.size, 0, none⟩) 2 2] (wy.alloc (.cells #[.int .i64 0, .int .i64 2] 3)) _ at SX
  have SX := Lib.hid SX
  have HTx := Lib.hid (HTx.out.below (below_step kx ka))
  have Bx := Lib.hid (Bx.out.below (below_step kx ka))
  have Wx := Lib.hid (below_step Wx.out (below_step kx ka))
  clear ho kx ka
  go_wp2_with fail
  refine SX.out.mono ?_
  rintro e wz ⟨rfl, kz⟩
  have HTx := Lib.hid (HTx.out.below kz)
  have Bx := Lib.hid (Bx.out.below kz)
  have Wx := Lib.hid (below_step Wx.out kz)
  clear kz SX
  have RG := Lib.hid (Blk.range Bx.out)
  go_wp2_with (refine wpL_tabW (by rfl) b1 rfl t1v RG.out SL.out ?_)
  clear RG
  refine (lorder_c t1v T1 t1_right _ HTx.out).mono ?_
  rintro e wy ⟨l2, rfl, ho, kx⟩
  rw [t1_order] at ho
  have ka := below_alloc (Below.refl wy.heap.size wy) (.cells (ints [0, 1, 2, 3]).toArray 3)
  have SX := same_refl [0, 1, 2, 3] (by decide) _ _ _ (((IntsAt.own ho).mono (Nat.zero_le _)).below ka) (ints_made wy [0, 1, 2, 3])
  change Calls Try.prog 16 #[l2, .slice (some ⟨wy.heap.size, 0, none⟩) 4 4] (wy.alloc (.cells #[.int .i64 0, .int .i64 1, .int .i64 2, .int .i64 3] 3)) _ at SX
  have SX := Lib.hid SX
  have HTx := Lib.hid (HTx.out.below (below_step kx ka))
  have Bx := Lib.hid (Bx.out.below (below_step kx ka))
  have Wx := Lib.hid (below_step Wx.out (below_step kx ka))
  clear ho kx ka
  go_wp2_with fail
  refine SX.out.mono ?_
  rintro e wz ⟨rfl, kz⟩
  have HTx := Lib.hid (HTx.out.below kz)
  have Bx := Lib.hid (Bx.out.below kz)
  have Wx := Lib.hid (below_step Wx.out kz)
  clear kz SX
  go_wp2_with fail
  go_ret
  exact ⟨rfl, Wx.out⟩
end Go.Proofs.Ytafcnehinanecaa
