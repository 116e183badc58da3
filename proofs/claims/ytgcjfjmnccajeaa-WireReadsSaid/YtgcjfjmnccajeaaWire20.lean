/- The answers that the document fixes. -/
import Derived.Test.YtgcjfjmnccajeaaWire19
namespace Go.Proofs.Ytgcjfjmnccajeaa
open Go.RowKit
theorem mk_app (a b : List UInt8) : (⟨a.toArray⟩ : ByteArray) ++ ⟨b.toArray⟩ = ⟨(a ++ b).toArray⟩ := by
  apply Go.WideShapes.bytes_inj
  simp [ByteArray.data_append]
theorem print_ok (r : Rq) (h : okQ r) (w : World) : Calls Try.prog 10 #[.agg (rqA r)] w fun e w' => e = .returned (.tuple #[.string ⟨(encQ r).toArray⟩, .int .i64 0]) ∧ Below w.heap.size w w' :=
  (print_c r w (by have := h.2.2.2.2.1; omega)).mono fun _ _ ⟨h1, h2⟩ => ⟨by rw [h1, printE_ok h], h2⟩
theorem print_no (r : Rq) (h : ¬ okQ r) (hl : r.text.length ≤ 1000000) (w : World) : Calls Try.prog 10 #[.agg (rqA r)] w fun e w' => e = .returned (.tuple #[.string { data := #[] }, .int .i64 1]) ∧ Below w.heap.size w w' :=
  (print_c r w hl).mono fun _ _ ⟨h1, h2⟩ => ⟨by rw [h1, printE_no h], h2⟩
theorem wread_ok {l rest : List UInt8} {r : Rq} (h : readQ l = some (r, rest)) (hl : l.length ≤ 1000000) (w : World) : Calls Try.prog 8 #[.string ⟨l.toArray⟩] w fun e w' => e = .returned (.tuple #[.agg (rqA r), .string ⟨rest.toArray⟩, .int .i64 0]) ∧ Below w.heap.size w w' :=
  (wread_c l hl w).mono fun _ _ ⟨h1, h2⟩ => ⟨by rw [h1, readE_some h], h2⟩
theorem wread_no {l : List UInt8} (h : readQ l = none) (hl : l.length ≤ 1000000) (w : World) : Calls Try.prog 8 #[.string ⟨l.toArray⟩] w fun e w' => e = .returned (.tuple #[.agg zeroA, .string { data := #[] }, .int .i64 10]) ∧ Below w.heap.size w w' :=
  (wread_c l hl w).mono fun _ _ ⟨h1, h2⟩ => ⟨by rw [h1, readE_none h], h2⟩
theorem printR_ok (r : Rp) (h : okR r) (v : Value) (w : World) (hv : TokS w v r.toks) : Calls Try.prog 14 #[.agg #[.int .i64 r.err, .int .i64 r.at_, v]] w fun e w' => e = .returned (.tuple #[.string ⟨(encR r).toArray⟩, .int .i64 0]) ∧ Below w.heap.size w w' :=
  (printR_c r v w hv (by have := h.2.2.2.1; omega)).mono fun _ _ ⟨h1, h2⟩ => ⟨by rw [h1, printRE_ok h], h2⟩
theorem printR_no (r : Rp) (h : ¬ okR r) (hw : ∀ t ∈ r.toks, wfI t.2.2) (hl : r.toks.length ≤ 1000000) (v : Value) (w : World) (hv : TokS w v r.toks) : Calls Try.prog 14 #[.agg #[.int .i64 r.err, .int .i64 r.at_, v]] w fun e w' => e = .returned (.tuple #[.string { data := #[] }, .int .i64 1]) ∧ Below w.heap.size w w' :=
  (printR_c r v w hv hl).mono fun _ _ ⟨h1, h2⟩ => ⟨by rw [h1, printRE_no hw h], h2⟩
theorem wreadR_ok {l rest : List UInt8} {r : Rp} (h : readR l = some (r, rest)) (hl : l.length ≤ 1000000) (w : World) : Calls Try.prog 11 #[.string ⟨l.toArray⟩] w fun e w' =>
    (∃ v, e = .returned (.tuple #[.agg #[.int .i64 r.err, .int .i64 r.at_, v], .string ⟨rest.toArray⟩, .int .i64 0]) ∧ w'.ownsRow w.heap.size 78 3 v r.toks.length (tokCells r.toks)) ∧ Below w.heap.size w w' :=
  (wreadR_c l hl w).mono fun _ _ ⟨h1, h2⟩ => ⟨RespE_some h h1, h2⟩
theorem wreadR_no {l : List UInt8} (h : readR l = none) (hl : l.length ≤ 1000000) (w : World) : Calls Try.prog 11 #[.string ⟨l.toArray⟩] w fun e w' => e = .returned (.tuple #[.agg #[.int .i64 0, .int .i64 0, .slice none 0 0], .string { data := #[] }, .int .i64 10]) ∧ Below w.heap.size w w' :=
  (wreadR_c l hl w).mono fun _ _ ⟨h1, h2⟩ => ⟨RespE_none h h1, h2⟩
set_option maxHeartbeats 4000000 in
set_option maxRecDepth 100000 in
theorem awake_c (w : World) : Calls Try.prog 7 #[] w fun e w' => e = .returned (.bool true) ∧ Below w.heap.size w w' := by
  have C1 := Lib.hid (fun w1 => show Calls Try.prog 10 #[.agg #[.int .i64 4, .int .i64 3, .int .i64 0, .int .i64 0, .int .i64 0, .int .i64 0, .int .i64 0, .string { data := #[] }]] w1 fun e w' => e = .returned (.tuple #[.string { data := #[4, 3] }, .int .i64 0]) ∧ Below w1.heap.size w1 w' from
    print_ok ⟨4, 3, 0, 0, 0, 0, 0, []⟩ ⟨by decide, by decide, by decide, by decide, by decide, fun _ _ => rfl, fun _ => ⟨rfl, rfl, rfl, rfl, rfl⟩, fun h => absurd h (by decide)⟩ w1)
  have C2 := Lib.hid (fun w1 => show Calls Try.prog 8 #[.string ({ data := #[4, 3] } ++ { data := #[120] })] w1 fun e w' => e = .returned (.tuple #[.agg #[.int .i64 4, .int .i64 3, .int .i64 0, .int .i64 0, .int .i64 0, .int .i64 0, .int .i64 0, .string { data := #[] }], .string { data := #[120] }, .int .i64 0]) ∧ Below w1.heap.size w1 w' from
    (mk_app [4, 3] [120]).symm ▸ wread_ok (l := [4, 3, 120]) (rest := [120]) (r := ⟨4, 3, 0, 0, 0, 0, 0, []⟩) rfl (by decide) w1)
  have C3 := Lib.hid (fun w1 => show Calls Try.prog 10 #[.agg #[.int .i64 0, .int .i64 0, .int .i64 0, .int .i64 0, .int .i64 0, .int .i64 0, .int .i64 0, .string { data := #[] }]] w1 fun e w' => e = .returned (.tuple #[.string { data := #[] }, .int .i64 1]) ∧ Below w1.heap.size w1 w' from
    print_no ⟨0, 0, 0, 0, 0, 0, 0, []⟩ (fun h => absurd h.1 (by decide)) (by decide) w1)
  have C4 := Lib.hid (fun w1 => show Calls Try.prog 8 #[.string { data := #[] }] w1 fun e w' => e = .returned (.tuple #[.agg #[.int .i64 0, .int .i64 0, .int .i64 0, .int .i64 0, .int .i64 0, .int .i64 0, .int .i64 0, .string { data := #[] }], .string { data := #[] }, .int .i64 10]) ∧ Below w1.heap.size w1 w' from
    wread_no (l := []) rfl (by decide) w1)
  have C5 := Lib.hid (fun w1 => show Calls Try.prog 14 #[.agg #[.int .i64 6, .int .i64 200, .slice none 0 0]] w1 fun e w' => e = .returned (.tuple #[.string { data := #[6, 200, 1, 0] }, .int .i64 0]) ∧ Below w1.heap.size w1 w' from
    printR_ok ⟨6, 200, []⟩ ⟨by decide, by decide, ⟨by decide, by decide⟩, by decide, fun t h => by cases h⟩ (.slice none 0 0) w1 ⟨none, 0, rfl, fun h => absurd h (by decide)⟩)
  have C6 := Lib.hid (fun w1 => show Calls Try.prog 11 #[.string { data := #[6, 200, 1, 0] }] w1 fun e w' => (∃ v, e = .returned (.tuple #[.agg #[.int .i64 6, .int .i64 200, v], .string { data := #[] }, .int .i64 0]) ∧ w'.ownsRow w1.heap.size 78 3 v 0 []) ∧ Below w1.heap.size w1 w' from
    wreadR_ok (l := [6, 200, 1, 0]) (rest := []) (r := ⟨6, 200, []⟩) (by rfl) (by decide) w1)
  have C7 := Lib.hid (fun w1 => show Calls Try.prog 11 #[.string { data := #[0, 128, 0, 0] }] w1 fun e w' => e = .returned (.tuple #[.agg #[.int .i64 0, .int .i64 0, .slice none 0 0], .string { data := #[] }, .int .i64 10]) ∧ Below w1.heap.size w1 w' from
    wreadR_no (l := [0, 128, 0, 0]) (by rfl) (by decide) w1)
  go_enter Try.func7, Try.ntmps7
  go_wp2_with fail
  refine (C1.out _).mono ?_; rintro e w1 ⟨rfl, k1⟩
  have W1 := Lib.hid k1
  clear k1
  go_wp2_with fail
  refine (C2.out _).mono ?_; rintro e w2 ⟨rfl, k2⟩
  have W2 := Lib.hid (below_alloc (below_step W1.out k2) (.cells #[.int .i64 4, .int .i64 3, .int .i64 0, .int .i64 0, .int .i64 0, .int .i64 0, .int .i64 0, .string { data := #[] }] 26))
  have B3 := Lib.hid (Blk.made w2 26 #[.int .i64 4, .int .i64 3, .int .i64 0, .int .i64 0, .int .i64 0, .int .i64 0, .int .i64 0, .string { data := #[] }])
  clear k2
  go_wp2_with fail
  refine (C3.out _).mono ?_; rintro e w3 ⟨rfl, k3⟩
  have W3 := Lib.hid (below_step W2.out k3)
  have B3' := Lib.hid (B3.out.below k3)
  clear k3
  go_wp2_with fail
  refine (C4.out _).mono ?_; rintro e w4 ⟨rfl, k4⟩
  have W4 := Lib.hid (below_alloc (below_step W3.out k4) (.cells #[.int .i64 0, .int .i64 0, .int .i64 0, .int .i64 0, .int .i64 0, .int .i64 0, .int .i64 0, .string { data := #[] }] 26))
  have B4 := Lib.hid ((B3'.out.below k4).alloc (.cells #[.int .i64 0, .int .i64 0, .int .i64 0, .int .i64 0, .int .i64 0, .int .i64 0, .int .i64 0, .string { data := #[] }] 26))
  clear k4
  go_wp2_with fail
  refine (C5.out _).mono ?_; rintro e w5 ⟨rfl, k5⟩
  have W5 := Lib.hid (below_step W4.out k5)
  have B5 := Lib.hid (B4.out.below k5)
  clear k5
  go_wp2_with fail
  refine (C6.out _).mono ?_; rintro e w6 ⟨⟨v, rfl, hv⟩, k6⟩
  obtain ⟨av, cv, rfl, _⟩ := own_form hv
  have W6 := Lib.hid (below_alloc (below_step W5.out k6) (.cells #[.int .i64 6, .int .i64 200, .slice av 0 cv] 36))
  have B6 := Lib.hid ((B5.out.below k6).alloc (.cells #[.int .i64 6, .int .i64 200, .slice av 0 cv] 36))
  have D6 := Lib.hid (Blk.made w6 36 #[.int .i64 6, .int .i64 200, .slice av 0 cv])
  clear k6 hv
  go_wp2_with fail
  refine (C7.out _).mono ?_; rintro e w7 ⟨rfl, k7⟩
  have W7 := Lib.hid (below_step W6.out k7)
  have c3 : w7.cell? ⟨w2.heap.size, 1, none⟩ = some (.int .i64 3) := (B6.out.below k7).cell 1
  have c13 : w7.cell? ⟨w6.heap.size, 1, none⟩ = some (.int .i64 200) := (D6.out.below k7).cell 1
  have l3 := (B6.out.below k7).lt
  have l13 := (D6.out.below k7).lt
  clear k7
  go_wp2_with fail
  go_returns
  exact ⟨rfl, below_alloc W7.out _⟩
end Go.Proofs.Ytgcjfjmnccajeaa
