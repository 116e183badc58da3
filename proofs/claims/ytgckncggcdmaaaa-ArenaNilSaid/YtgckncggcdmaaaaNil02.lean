/- The walk of ArenaNil. -/
import Derived.Test.YtgckncggcdmaaaaAw02
namespace Go.Proofs.Ytgckncggcdmaaaa
open Go.RowKit
set_option maxHeartbeats 4000000 in
set_option maxRecDepth 100000 in
theorem arenaNil_c (id i : Int) (w : World) : Calls Try.prog 5 #[.int .i64 id, .int .i64 i] w fun e w' => e = .returned (.bool true) ∧ Below w.heap.size w w' := by
  go_enter Try.func5, Try.ntmps5
  go_wp2_with fail
  refine (wipe_none _).mono ?_
  rintro e w1 ⟨rfl, rfl⟩
  go_wp2_with fail
  refine (alloc_none i _).mono ?_
  rintro e w1 ⟨rfl, rfl⟩
  go_wp2_with fail
  refine (get_none id i _).mono ?_
  rintro e w2 ⟨rfl, h2⟩
  have H2 := Lib.hid h2
  clear h2
  go_wp2_with fail
  refine (awake_c _).mono ?_
  rintro e w3 ⟨rfl, h3⟩
  have H3 := Lib.hid (below_step H2.out h3)
  clear h3
  go_wp2_with fail
  refine (free_none id _).mono ?_
  rintro e w4 ⟨rfl, h4⟩
  have H4 := Lib.hid (below_step H3.out h4)
  clear h4
  go_wp2_with fail
  refine (set_none id i 1 _).mono ?_
  rintro e w5 ⟨rfl, h5⟩
  have H5 := Lib.hid (below_step H4.out h5)
  clear h5
  go_wp2_with fail
  refine (len_none id _).mono ?_
  rintro e w6 ⟨rfl, h6⟩
  have H6 := Lib.hid (below_step H5.out h6)
  clear h6
  go_wp2_with fail
  refine (base_none id _).mono ?_
  rintro e w7 ⟨rfl, h7⟩
  have H7 := Lib.hid (below_step H6.out h7)
  clear h7
  go_wp2_with fail
  refine (left_none _).mono ?_
  rintro e w8 ⟨rfl, rfl⟩
  go_wp2_with fail
  refine (clean_none _).mono ?_
  rintro e w8 ⟨rfl, rfl⟩
  go_wp2_with fail
  go_ret
  exact ⟨rfl, H7.out⟩
end Go.Proofs.Ytgckncggcdmaaaa
