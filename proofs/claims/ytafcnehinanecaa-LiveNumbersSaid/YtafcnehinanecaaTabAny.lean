/- slices.ContainsFunc at bytes and at whole numbers. -/
import Derived.Test.YtafcnehinanecaaTabRight
namespace Go.Proofs.Ytafcnehinanecaa
open Go.RowKit
/-- A predicate that only makes memory. -/
def PredB (g : Nat) (lb : Array Value) (v : Value) (t : Bool) (w : World) : Prop := ∀ W, Below w.heap.size w W → Calls Try.prog g (#[v] ++ lb) W fun e w' => e = .returned (.bool t) ∧ Below W.heap.size W w'
attribute [local irreducible] Calls
set_option maxHeartbeats 4000000 in
theorem idx8_c (g : Nat) (lb : Array Value) (eg : ∀ args w, (callFunc g args).run Try.prog w = .ok (.enter g args) w) (p : Nat → Bool) (l : List Nat) (hl : l.length ≤ 100000) (b off c : Nat) (w : World) (hb : b < w.heap.size)
    (hc : ∀ j (hj : j < l.length), w.cell? ⟨b, off + j, none⟩ = some (.int .u8 (l[j] : Nat))) (hp : ∀ j (hj : j < l.length), PredB g lb (.int .u8 (l[j] : Nat)) (p l[j]) w) :
    Calls Try.prog 55 #[.slice (some ⟨b, off, none⟩) l.length c, .func (.func g) #[] lb] w fun e w' => (∃ i : Int, e = .returned (.int .i64 i) ∧ decide (0 ≤ i) = l.any p) ∧ Below w.heap.size w w' := by
  have HP := Lib.hid hp
  have HC := Lib.hid hc
  have W0 := Lib.hid (Below.refl w.heap.size w)
  clear hp hc
  go_enter Try.func55, Try.ntmps55
  go_wp2_with fail
  go_loopw [5, 8] (fun _ i wx => ∃ k : Nat, k ≤ l.length ∧ i = .int .i64 k ∧ (l.take k).any p = false ∧ Below w.heap.size w wx) (fun _ i _ => l.length - (intOf i).toNat)
  case atStart => exact ⟨0, by omega, rfl, by simp, W0.out⟩
  case round =>
    clear W0
    obtain ⟨k, hk, rfl, ha, hw⟩ := hrel
    have HA := Lib.hid ha
    have HW := Lib.hid hw
    clear ha
    by_cases hlt : k < l.length
    · have t1 : decide (k < l.length) = true := by simpa
      have ck : wr.cell? ⟨b, off + k, none⟩ = some (.int .u8 (l[k] : Nat)) := (hw.cell (p := ⟨b, _, none⟩) hb).trans (HC.out k hlt)
      have hcall := HP.out k hlt wr hw
      have TK := Lib.hid (show (l.take (k + 1)).any p = p l[k] from by rw [List.take_succ_eq_append_getElem hlt, List.any_append, HA.out]; simp)
      have TY := Lib.hid (show p l[k] = true → l.any p = true from fun h => List.any_eq_true.2 ⟨l[k], List.getElem_mem hlt, h⟩)
      clear hw
      generalize l[k] = x at *
      cases hq : p x with
      | true =>
        rw [hq] at hcall
        have HX := Lib.hid (TY.out hq)
        clear hq
        have HCALL := Lib.hid hcall
        clear hcall
        go_wp2_with fail
        refine HCALL.out.mono ?_; rintro e w1 ⟨rfl, k1⟩; have K1 := Lib.hid k1; clear k1
        go_wp2_with fail
        go_returns
        exact ⟨⟨k, rfl, by rw [HX.out]; simp⟩, below_step HW.out K1.out⟩
      | false =>
        rw [hq] at hcall
        have HX := Lib.hid (TK.out.trans hq)
        clear hq
        have HCALL := Lib.hid hcall
        clear hcall
        go_wp2_with fail
        refine HCALL.out.mono ?_; rintro e w1 ⟨rfl, k1⟩; have K1 := Lib.hid k1; clear k1
        go_wp2_with fail
        go_roundw
        case rel => exact ⟨k + 1, by omega, by go_num, HX.out, below_step HW.out K1.out⟩
        case measure => simp [intOf]; omega
    · have t1 : decide (k < l.length) = false := by simpa using hlt
      have HX := Lib.hid (show l.any p = false from by have := HA.out; rwa [List.take_of_length_le (by omega)] at this)
      go_wp2_with fail
      go_returns
      exact ⟨⟨-1, rfl, by rw [HX.out]; decide⟩, HW.out⟩
set_option maxHeartbeats 4000000 in
theorem idx64_c (g : Nat) (lb : Array Value) (eg : ∀ args w, (callFunc g args).run Try.prog w = .ok (.enter g args) w) (p : Int → Bool) (l : List Int) (hl : l.length ≤ 100000) (v : Value) (w : World) (hv : IntsAt w 0 v l)
    (hp : ∀ j (hj : j < l.length), PredB g lb (.int .i64 l[j]) (p l[j]) w) :
    Calls Try.prog 56 #[v, .func (.func g) #[] lb] w fun e w' => (∃ i : Int, e = .returned (.int .i64 i) ∧ decide (0 ≤ i) = l.any p) ∧ Below w.heap.size w w' := by
  have HP := Lib.hid hp
  have HV := Lib.hid hv
  obtain ⟨ao, c, rfl, _, _⟩ := id hv
  have W0 := Lib.hid (Below.refl w.heap.size w)
  clear hp hv
  go_enter Try.func56, Try.ntmps56
  go_wp2_with fail
  go_loopw [5, 8] (fun _ i wx => ∃ k : Nat, k ≤ l.length ∧ i = .int .i64 k ∧ (l.take k).any p = false ∧ Below w.heap.size w wx) (fun _ i _ => l.length - (intOf i).toNat)
  case atStart => exact ⟨0, by omega, rfl, by simp, W0.out⟩
  case round =>
    clear W0
    obtain ⟨k, hk, rfl, ha, hw⟩ := hrel
    have HA := Lib.hid ha
    have HW := Lib.hid hw
    clear ha
    by_cases hlt : k < l.length
    · have t1 : decide (k < l.length) = true := by simpa
      obtain ⟨b, off, rfl, hb, c0⟩ := HV.out.at_ hlt
      have ck : wr.cell? ⟨b, off + k, none⟩ = some (.int .i64 l[k]) := (hw.cell (p := ⟨b, _, none⟩) hb).trans c0
      have hcall := HP.out k hlt wr hw
      have TK := Lib.hid (show (l.take (k + 1)).any p = p l[k] from by rw [List.take_succ_eq_append_getElem hlt, List.any_append, HA.out]; simp)
      have TY := Lib.hid (show p l[k] = true → l.any p = true from fun h => List.any_eq_true.2 ⟨l[k], List.getElem_mem hlt, h⟩)
      clear hw c0
      generalize l[k] = x at *
      cases hq : p x with
      | true =>
        rw [hq] at hcall
        have HX := Lib.hid (TY.out hq)
        clear hq
        have HCALL := Lib.hid hcall
        clear hcall
        go_wp2_with fail
        refine HCALL.out.mono ?_; rintro e w1 ⟨rfl, k1⟩; have K1 := Lib.hid k1; clear k1
        go_wp2_with fail
        go_returns
        exact ⟨⟨k, rfl, by rw [HX.out]; simp⟩, below_step HW.out K1.out⟩
      | false =>
        rw [hq] at hcall
        have HX := Lib.hid (TK.out.trans hq)
        clear hq
        have HCALL := Lib.hid hcall
        clear hcall
        go_wp2_with fail
        refine HCALL.out.mono ?_; rintro e w1 ⟨rfl, k1⟩; have K1 := Lib.hid k1; clear k1
        go_wp2_with fail
        go_roundw
        case rel => exact ⟨k + 1, by omega, by go_num, HX.out, below_step HW.out K1.out⟩
        case measure => simp [intOf]; omega
    · have t1 : decide (k < l.length) = false := by simpa using hlt
      have HX := Lib.hid (show l.any p = false from by have := HA.out; rwa [List.take_of_length_le (by omega)] at this)
      go_wp2_with fail
      go_returns
      exact ⟨⟨-1, rfl, by rw [HX.out]; decide⟩, HW.out⟩
theorem has8_c (g : Nat) (lb : Array Value) (eg : ∀ args w, (callFunc g args).run Try.prog w = .ok (.enter g args) w) (p : Nat → Bool) (l : List Nat) (hl : l.length ≤ 100000) (b off c : Nat) (w : World) (hb : b < w.heap.size)
    (hc : ∀ j (hj : j < l.length), w.cell? ⟨b, off + j, none⟩ = some (.int .u8 (l[j] : Nat))) (hp : ∀ j (hj : j < l.length), PredB g lb (.int .u8 (l[j] : Nat)) (p l[j]) w) :
    Calls Try.prog 40 #[.slice (some ⟨b, off, none⟩) l.length c, .func (.func g) #[] lb] w fun e w' => e = .returned (.bool (l.any p)) ∧ Below w.heap.size w w' := by
  have HI := Lib.hid (idx8_c g lb eg p l hl b off c w hb hc hp)
  clear hp hc
  go_enter Try.func40, Try.ntmps40
  go_wp2_with (go_at_call 55; refine HI.out.mono ?_; rintro e w1 ⟨⟨i, rfl, hi⟩, k1⟩; have K1 := Lib.hid k1; have HE := Lib.hid hi; clear k1 hi)
  go_returns
  exact ⟨by rw [← HE.out]; rfl, K1.out⟩
theorem has64_c (g : Nat) (lb : Array Value) (eg : ∀ args w, (callFunc g args).run Try.prog w = .ok (.enter g args) w) (p : Int → Bool) (l : List Int) (hl : l.length ≤ 100000) (v : Value) (w : World) (hv : IntsAt w 0 v l)
    (hp : ∀ j (hj : j < l.length), PredB g lb (.int .i64 l[j]) (p l[j]) w) :
    Calls Try.prog 42 #[v, .func (.func g) #[] lb] w fun e w' => e = .returned (.bool (l.any p)) ∧ Below w.heap.size w w' := by
  have HI := Lib.hid (idx64_c g lb eg p l hl v w hv hp)
  clear hp hv
  go_enter Try.func42, Try.ntmps42
  go_wp2_with (go_at_call 56; refine HI.out.mono ?_; rintro e w1 ⟨⟨i, rfl, hi⟩, k1⟩; have K1 := Lib.hid k1; have HE := Lib.hid hi; clear k1 hi)
  go_returns
  exact ⟨by rw [← HE.out]; rfl, K1.out⟩
end Go.Proofs.Ytafcnehinanecaa
