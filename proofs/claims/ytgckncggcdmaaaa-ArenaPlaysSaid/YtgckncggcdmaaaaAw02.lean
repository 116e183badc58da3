/- Answers that the document fixes. -/
import Derived.Test.YtgckncggcdmaaaaArAll
namespace Go.Proofs.Ytgckncggcdmaaaa
open Go.RowKit Go.Maps
namespace Aw
def s1 := allocF (Ar.new 10) (some (Mt.new 9 0)) 4
def A1 : Ar := s1.1.1
def M1 : Option Mt := s1.1.2
def s2 := allocF A1 M1 4
def A2 : Ar := s2.1.1
def M2 : Option Mt := s2.1.2
def A3 : Ar := setF A2 2 3 7
def s5 := freeF A3 M2 1
def A5 : Ar := s5.1.1
def M5 : Option Mt := s5.1.2
def s6 := allocF A5 M5 5
def A6 : Ar := s6.1.1
def M6 : Option Mt := s6.1.2
def s7 := allocF A6 M6 3
def A7 : Ar := s7.1.1
def M7 : Option Mt := s7.1.2
def s8 := allocF A7 M7 3
def A8 : Ar := s8.1.1
def M8 : Option Mt := s8.1.2
theorem e1 : allocF (Ar.new 10) (some (Mt.new 9 0)) 4 = ((A1, M1), (1, 0)) := Prod.ext rfl (by decide)
theorem e2 : allocF A1 M1 4 = ((A2, M2), (2, 0)) := Prod.ext rfl (by decide)
theorem e3 : cellE A2.rs 2 3 = 0 := by decide
theorem e4 : cellE A3.rs 2 3 = 0 := by decide
theorem g4 : getF A3 2 3 = 7 := by decide
theorem e5 : freeF A3 M2 1 = ((A5, M5), 0) := Prod.ext rfl (by decide)
theorem e6 : allocF A5 M5 5 = ((A6, M6), (0, 3)) := Prod.ext rfl (by decide)
theorem e7 : allocF A6 M6 3 = ((A7, M7), (3, 0)) := Prod.ext rfl (by decide)
theorem e8 : allocF A7 M7 3 = ((A8, M8), (0, 3)) := Prod.ext rfl (by decide)
theorem e9 : cellE A8.rs 3 0 = 0 := by decide
theorem g9 : getF A8 3 0 = 0 := by decide
theorem b1 : baseV A8.rs 3 = 0 := by decide
theorem l1 : lenV A8.rs 2 = 4 := by decide
theorem l2 : lenV A8.rs 1 = -1 := by decide
theorem f1 : ((A8.size : Int) - A8.used) = 3 := by decide
theorem e10 : cellE A8.rs 2 4 = 2 := by decide
theorem k1 : A1.last = 1 := by decide
theorem k5 : A5.last = 2 := by decide
theorem k6 : A6.last = 2 := by decide
theorem k7 : A7.last = 3 := by decide
end Aw
set_option maxHeartbeats 4000000 in
set_option maxRecDepth 100000 in
theorem awake_c (w : World) : Calls Try.prog 8 #[] w fun e w' => e = .returned (.bool true) ∧ Below w.heap.size w w' := by
  go_enter Try.func8, Try.ntmps8
  go_wp2_with fail
  refine (new_c 9 0 w).mono ?_
  rintro e w1 ⟨rfl, hw1⟩
  have M1 : MoAt w1 (some w.heap.size) (some (Mt.new 9 0)) := by rw [hw1]; exact ⟨Blk.made _ _ _, Mt.new_ok 9 0⟩
  have B1 : Below w.heap.size w w1 := by rw [hw1]; exact below_alloc (Below.refl _ _) _
  clear hw1
  have NC := arnew_a (w := w) (some w.heap.size) (some (Mt.new 9 0)) 10 w1 B1 M1 (fun gm e => by cases e; exact Nat.le_refl _)
  have NC' := Lib.hid NC
  clear NC M1 B1
  go_wp2_with fail
  refine NC'.out.mono ?_
  rintro e w2 ⟨g, c, b, rfl, -, -, -, hA, -⟩
  rw [show szAr 10 = 10 from rfl] at hA
  have H0 := Lib.hid hA
  clear hA NC'
  have C := alloc_a H0.out (by exact Nat.zero_le _) 4 (by omega)
  rw [Aw.e1] at C
  have C' := Lib.hid C
  clear C
  go_wp2_with fail
  refine C'.out.mono ?_
  rintro e w3 ⟨rfl, hA⟩
  have H1 := Lib.hid hA
  clear hA C' H0
  have C := alloc_a H1.out (by rw [Aw.k1]; omega) 4 (by omega)
  rw [Aw.e2] at C
  have C' := Lib.hid C
  clear C
  go_wp2_with fail
  refine C'.out.mono ?_
  rintro e w4 ⟨rfl, hA⟩
  have H2 := Lib.hid hA
  clear hA C' H1
  have C := set_a H2.out 2 3 7 (by decide)
  rw [Aw.e3] at C
  have C' := Lib.hid C
  clear C
  go_wp2_with fail
  refine C'.out.mono ?_
  rintro e w5 ⟨rfl, hA⟩
  have H3 := Lib.hid (show Ars w g c b (some w.heap.size) Aw.A3 Aw.M2 w5 from hA)
  clear hA C' H2
  have C := get_a H3.out 2 3 (by decide)
  rw [Aw.g4, Aw.e4] at C
  have C' := Lib.hid C
  clear C
  go_wp2_with fail
  refine C'.out.mono ?_
  rintro e w6 ⟨rfl, hB⟩
  have H4 := Lib.hid (H3.out.later hB)
  clear hB C' H3
  have C := free_a H4.out 1 (by decide)
  rw [Aw.e5] at C
  have C' := Lib.hid C
  clear C
  go_wp2_with fail
  refine C'.out.mono ?_
  rintro e w7 ⟨rfl, hA⟩
  have H5 := Lib.hid hA
  clear hA C' H4
  have C := alloc_a H5.out (by rw [Aw.k5]; omega) 5 (by omega)
  rw [Aw.e6] at C
  have C' := Lib.hid C
  clear C
  go_wp2_with fail
  refine C'.out.mono ?_
  rintro e w8 ⟨rfl, hA⟩
  have H6 := Lib.hid hA
  clear hA C' H5
  have C := alloc_a H6.out (by rw [Aw.k6]; omega) 3 (by omega)
  rw [Aw.e7] at C
  have C' := Lib.hid C
  clear C
  go_wp2_with fail
  refine C'.out.mono ?_
  rintro e w9 ⟨rfl, hA⟩
  have H7 := Lib.hid hA
  clear hA C' H6
  have C := alloc_a H7.out (by rw [Aw.k7]; omega) 3 (by omega)
  rw [Aw.e8] at C
  have C' := Lib.hid C
  clear C
  go_wp2_with fail
  refine C'.out.mono ?_
  rintro e w10 ⟨rfl, hA⟩
  have H8 := Lib.hid hA
  clear hA C' H7
  have C := get_a H8.out 3 0 (by decide)
  rw [Aw.g9, Aw.e9] at C
  have C' := Lib.hid C
  clear C
  go_wp2_with fail
  refine C'.out.mono ?_
  rintro e w11 ⟨rfl, hB⟩
  have H9 := Lib.hid (H8.out.later hB)
  clear hB C' H8
  have C := base_c Aw.A8 3 (by decide) g c b _ w11 H9.out.ar
  rw [Aw.b1] at C
  have C' := Lib.hid C
  clear C
  go_wp2_with fail
  refine C'.out.mono ?_
  rintro e w12 ⟨rfl, hB⟩
  have H10 := Lib.hid (H9.out.later hB)
  clear hB C' H9
  have C := len_c Aw.A8 2 (by decide) g c b _ w12 H10.out.ar
  rw [Aw.l1] at C
  have C' := Lib.hid C
  clear C
  go_wp2_with fail
  refine C'.out.mono ?_
  rintro e w13 ⟨rfl, hB⟩
  have H11 := Lib.hid (H10.out.later hB)
  clear hB C' H10
  have C := len_c Aw.A8 1 (by decide) g c b _ w13 H11.out.ar
  rw [Aw.l2] at C
  have C' := Lib.hid C
  clear C
  go_wp2_with fail
  refine C'.out.mono ?_
  rintro e w14 ⟨rfl, hB⟩
  have H12 := Lib.hid (H11.out.later hB)
  clear hB C' H11
  have C := left_c Aw.A8 g c b _ w14 H12.out.ar
  rw [Aw.f1] at C
  have C' := Lib.hid C
  clear C
  go_wp2_with fail
  refine C'.out.mono ?_
  rintro e w15 ⟨rfl, rfl⟩
  clear C'
  have C' := Lib.hid (clean_c Aw.A8 H12.out.ok g c b _ w14 H12.out.ar)
  go_wp2_with fail
  refine C'.out.mono ?_
  rintro e w16 ⟨rfl, hB⟩
  have H13 := Lib.hid (H12.out.later hB)
  clear hB C' H12
  have C := set_a H13.out 2 4 1 (by decide)
  rw [Aw.e10] at C
  have C' := Lib.hid C
  clear C
  go_wp2_with fail
  refine C'.out.mono ?_
  rintro e w17 ⟨rfl, hA⟩
  have H14 := Lib.hid hA
  clear hA C' H13
  go_wp2_with fail
  go_ret
  exact ⟨rfl, H14.out.below⟩
end Go.Proofs.Ytgckncggcdmaaaa
