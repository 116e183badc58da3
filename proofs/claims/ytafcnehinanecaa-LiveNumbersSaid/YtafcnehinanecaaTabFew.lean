/- The reference's Few. -/
import Derived.Test.YtafcnehinanecaaTab
namespace Go.Proofs.Ytafcnehinanecaa
open Go.RowKit
def fewB (T : Tb) : Bool := T.next.all (fun r => decide (r.length ≤ 300)) && (decide (T.next.length ≤ 400) && decide (T.tag.length ≤ 400))
set_option maxHeartbeats 1000000 in
set_option maxRecDepth 100000 in
theorem few_c (tv : Array Value) (T : Tb) (hl : T.next.length ≤ 9223372036854775807) (w : World) (h : TbR w tv T) : Calls Try.prog 8 #[.agg tv] w fun e w' => e = .returned (.bool (fewB T)) ∧ Below w.heap.size w w' := by
  have W0 := Lib.hid (below_alloc (Below.refl w.heap.size w) (.cells tv 26))
  have HT := Lib.hid h.boxed
  obtain ⟨_, _, _, an, cn, at_, ct, c3, c4, hr, _⟩ := HT.out.cells
  have HR := Lib.hid hr
  clear h hr
  go_enter Try.func8, Try.ntmps8
  go_wp2_with fail
  generalize w.alloc _ = wb at *
  go_loop [3] (fun i => ∃ k : Nat, k ≤ T.next.length ∧ i = .int .i64 k ∧ (T.next.take k).all (fun r => decide (r.length ≤ 300)) = true) (fun i => T.next.length - (intOf i).toNat)
  case atStart => exact ⟨0, by omega, rfl, rfl⟩
  case round =>
    obtain ⟨k, hk, rfl, ha⟩ := hrel
    by_cases hlt : k < T.next.length
    · have t1 : decide (k < T.next.length) = true := by simp; omega
      obtain ⟨b, off, A, c, rfl, hb, cr, hi⟩ := HR.out.at_ hlt
      have TK := Lib.hid (show (T.next.take (k + 1)).all (fun r => decide (r.length ≤ 300)) = ((T.next.take k).all (fun r => decide (r.length ≤ 300)) && decide (T.next[k].length ≤ 300)) from by rw [List.take_succ_eq_append_getElem hlt, List.all_append]; simp)
      have NO := Lib.hid (show ¬ T.next[k].length ≤ 300 → fewB T = false from fun hn => by
        unfold fewB
        rw [show T.next.all (fun r => decide (r.length ≤ 300)) = false from by
          rw [List.all_eq_false]; exact ⟨T.next[k], List.getElem_mem hlt, by simpa using hn⟩]; rfl)
      have HA := Lib.hid ha
      clear hi ha
      generalize T.next[k] = row at *
      by_cases h3 : row.length ≤ 300
      · have t2 : decide ((300 : Int) < (row.length : Nat)) = false := by simp; omega
        have HX := Lib.hid (show (T.next.take (k + 1)).all (fun r => decide (r.length ≤ 300)) = true from by rw [TK.out, HA.out]; simpa using h3)
        go_wp2_with fail
        go_round
        case rel => exact ⟨k + 1, by omega, by go_num, HX.out⟩
        case measure => simp [intOf]; omega
      · have t2 : decide ((300 : Int) < (row.length : Nat)) = true := by simp; omega
        have HX := Lib.hid (NO.out h3)
        go_wp2_with fail
        go_returns
        exact ⟨by rw [HX.out]; rfl, W0.out⟩
    · have t1 : decide (k < T.next.length) = false := by simp; omega
      have e : k = T.next.length := by omega
      rw [e, List.take_length] at ha
      have FE := Lib.hid (show fewB T = (decide (T.next.length ≤ 400) && decide (T.tag.length ≤ 400)) from by unfold fewB; rw [ha]; rfl)
      clear ha
      by_cases h4 : T.next.length ≤ 400
      · have t3 : decide ((T.next.length : Int) ≤ 400) = true := by simp; omega
        have FE2 := Lib.hid (show fewB T = decide ((T.tag.length : Int) ≤ 400) from by rw [FE.out, decide_eq_true h4, Bool.true_and, decide_eq_decide]; omega)
        go_wp2_with fail
        go_returns
        exact ⟨by rw [FE2.out]; rfl, W0.out⟩
      · have t3 : decide ((T.next.length : Int) ≤ 400) = false := by simp; omega
        have FE2 := Lib.hid (show fewB T = false from by rw [FE.out, decide_eq_false h4]; rfl)
        go_wp2_with fail
        go_returns
        exact ⟨by rw [FE2.out]; rfl, W0.out⟩
end Go.Proofs.Ytafcnehinanecaa
