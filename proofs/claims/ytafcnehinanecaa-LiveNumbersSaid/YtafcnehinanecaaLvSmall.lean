/- The law's small table. -/
import Derived.Test.YtafcnehinanecaaRefL
namespace Go.Proofs.Ytafcnehinanecaa
open Go.RowKit
theorem wpL_tab {ops : Array Oper} {rest : List Oper} {dst : Option Nat} {x : Operand} {ty : TypeId} {pos : String} {after : Array Edge} {a : Act} {w : World} {Q : Exit → Act → World → Prop} (b : Nat) (hx : a.eval x = .pointer (some ⟨b, 0, none⟩)) (tv : Array Value)
    (hc : w.rangeAt b 0 tv.toList) (hi : (Try.prog.info? 26).map (·.size) = some tv.toList.length) (h : wpList Try.prog ops Q rest (a.put dst (.agg tv)) w) :
    wpList Try.prog ops Q ({ dst := dst, op := .load 26 x, type := ty, pos := pos, after := after, guard := none } :: rest) a w :=
  wpList_load_mid rfl 26 x rfl b 0 hx tv.toList _ hc Try.underlying26 rfl hi (by rw [Array.toArray_toList]; exact h)
def m97 : List Nat := (List.replicate 256 0).set 97 1
theorem small_built (a a' : Option Addr) (n c n' c' : Nat) : Try.prog.built 26 [(0, .int .i64 2), (3, .slice a n c), (4, .slice a' n' c')] = some (tbCs 2 0 (List.replicate 256 0) (.slice a n c) (.slice a' n' c')) := by kernel_rfl
theorem small_fill (a a' : Option Addr) (n c n' c' : Nat) : ((Z0v.setIfInBounds 0 (.int .i64 2)).setIfInBounds 258 (.slice a n c)).setIfInBounds 259 (.slice a' n' c') = tbCs 2 0 (List.replicate 256 0) (.slice a n c) (.slice a' n' c') := by kernel_rfl
theorem small_set (a a' : Option Addr) (n c n' c' : Nat) : (tbCs 2 0 (List.replicate 256 0) (.slice a n c) (.slice a' n' c')).setIfInBounds 99 (.int .u8 1) = tbCs 2 0 m97 (.slice a n c) (.slice a' n' c') := by kernel_rfl
theorem m97_len : m97.length = 256 := by unfold m97; rw [List.length_set, List.length_replicate]
theorem m97_lt : ∀ n ∈ m97, n < 2 := fun n hn => by
  unfold m97 at hn
  rcases List.mem_or_eq_of_mem_set hn with h | h
  · have := List.eq_of_mem_replicate h; omega
  · omega
theorem tb_mk {w : World} {c s : Int} {m : List Nat} {v v' : Value} {rows : List (List Int)} {tags : List Int} (hm : m.length = 256) (hb : ∀ n ∈ m, n < 256) (h : RowsR w v rows) (h' : IntsAt w 0 v' tags) : TbR w (tbCs c s m v v') ⟨c, s, m, rows, tags⟩ := ⟨hm, hb, v, v', rfl, h, h'⟩
attribute [irreducible] m97
attribute [local irreducible] Calls
set_option maxHeartbeats 4000000 in
set_option maxRecDepth 100000 in
theorem small_c (rows : List (List Int)) (tags : List Int) (v v' : Value) (w : World) (h : RowsR w v rows) (h' : IntsAt w 0 v' tags) : Calls Try.prog 24 #[v, v'] w fun e w' => ∃ tv, e = .returned (.agg tv) ∧ TbR w' tv ⟨2, 0, m97, rows, tags⟩ ∧ Below w.heap.size w w' := by
  obtain ⟨a, c, rfl⟩ := h.form
  obtain ⟨a', c', rfl, _⟩ := id h'
  have Z := (zero_of_info z0_info).1
  have BU : ((Z0v.setIfInBounds 0 (.int .i64 2)).setIfInBounds 258 (.slice a rows.length c)).setIfInBounds 259 (.slice a' tags.length c') = tbCs 2 0 (List.replicate 256 0) (.slice a rows.length c) (.slice a' tags.length c') := small_fill ..
  have hne : ¬ Z0v = #[] := fun e => by have := z0_size; rw [e] at this; exact nomatch this
  have S1 := Lib.hid (small_set a a' rows.length c tags.length c')
  have z1 := tbCs_size 2 0 (List.replicate 256 0) (.slice a rows.length c) (.slice a' tags.length c') List.length_replicate
  have o1 := tbCs_one 2 0 (List.replicate 256 0) (vn := .slice a rows.length c) (vt := .slice a' tags.length c') rfl rfl
  have z2 := tbCs_size 2 0 m97 (.slice a rows.length c) (.slice a' tags.length c') m97_len
  have o2 := tbCs_one 2 0 m97 (vn := .slice a rows.length c) (vt := .slice a' tags.length c') rfl rfl
  have FIN := Lib.hid (fun wz (hz : Below w.heap.size w wz) => tb_mk (w := wz) (c := 2) (s := 0) m97_len (fun n hn => by have := m97_lt n hn; omega) (h.below hz) (h'.below hz))
  have b1 := tbCs_byte (c := 2) (s := 0) (m := List.replicate 256 0) (vn := .slice a rows.length c) (vt := .slice a' tags.length c') (j := 97) (by rw [List.length_replicate]; omega)
  rw [List.getElem_replicate] at b1
  have K2 := Lib.hid (below_alloc (below_alloc (Below.refl w.heap.size w) (.cells Z0v 26)) (.cells Z0v 26))
  have R0 := Lib.hid ((Blk.made w 26 Z0v).alloc (.cells Z0v 26))
  have R1 := Lib.hid (show Blk ((w.alloc (.cells Z0v 26)).alloc (.cells Z0v 26)) (w.heap.size + 1) 26 Z0v from by
    have := Blk.made (w.alloc (.cells Z0v 26)) 26 Z0v
    rwa [World.size_alloc] at this)
  have hzz := z0_size
  generalize hC1 : tbCs 2 0 (List.replicate 256 0) (.slice a rows.length c) (.slice a' tags.length c') = C1 at *
  generalize hC2 : tbCs 2 0 m97 (.slice a rows.length c) (.slice a' tags.length c') = C2 at *
  have ST1 := store_tab R1.out z0_size z1 o1
  clear h h'
  go_enter Try.func24, Try.ntmps24
  go_upto_region 2 with fail
  clear ST1 BU hC1 hC2
  generalize hg : w.heap.size = g at *
  have Q0 := Lib.hid (R0.out.rowFar (k := g + 1) (by omega) C1)
  have Q1 := Lib.hid (Blk.row R1.out C1)
  have KQ := Lib.hid (below_row K2.out (g := g + 1) (by omega) C1)
  clear R0 R1 K2
  generalize ((w.alloc (.cells Z0v 26)).alloc (.cells Z0v 26)).setRow (g + 1) C1 = wq at *
  have e1 := (Q1.out.cell 99).trans b1
  have f1 := Q1.out.free 99
  go_upto_region 3 with fail
  have P1 := Lib.hid ((Q1.out.set 99 (.int .u8 1)).cast S1.out)
  have P0 := Lib.hid (Q0.out.far (p := ⟨g + 1, 99, none⟩) (by simp) (.int .u8 1))
  have KP := Lib.hid (KQ.out.setCell (p := ⟨g + 1, 99, none⟩) (show g ≤ g + 1 by omega) (.int .u8 1))
  clear Q0 Q1 KQ e1 f1 b1
  generalize wq.setCell _ _ = wp at *
  have RG := Lib.hid (Blk.range P1.out)
  have SL := Lib.hid (show (Try.prog.info? 26).map (·.size) = some C2.toList.length from by rw [Array.length_toList, z2]; exact info_tab)
  have ST2 := store_tab P0.out z0_size z2 o2
  have P2 := Lib.hid (Blk.row P0.out C2)
  have LD := load_tab P2.out z2
  have KR := Lib.hid (below_row KP.out (g := g) (Nat.le_refl _) C2)
  go_wp2_with (refine wpL_tab (g + 1) rfl C2 RG.out SL.out ?_)
  exact bodyPost_ret (v := .agg C2) (by simp [results, Try.results24, asAddr, LD]) rfl ⟨C2, rfl, FIN.out _ KR.out, by rw [hg]; exact KR.out⟩
end Go.Proofs.Ytafcnehinanecaa
