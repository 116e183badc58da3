/- The document's arena hands a region out. -/
import Derived.Test.YtgckncggcdmaaaaReAt
import Derived.Test.YtgckncggcdmaaaaPop
namespace Go.Proofs.Ytgckncggcdmaaaa
open Go.RowKit
theorem cells_three_new (w : World) (t : TypeId) (u v x : Value) : ∀ j y, [u, v, x][j]? = some y → (w.alloc (.cells #[u, v, x] t)).cell? ((⟨w.heap.size, 0, none⟩ : Addr).add j) = some y := by
  intro j y hj
  rw [show (⟨w.heap.size, 0, none⟩ : Addr).add j = ⟨w.heap.size, j, none⟩ from by unfold Addr.add; split <;> simp_all, (Blk.made w t #[u, v, x]).cell j]
  simpa using hj
set_option maxHeartbeats 1000000 in
theorem ralloc_arg (p : Addr) (n : Int) (hn : n < 1) (w : World) : Calls Try.prog 23 #[.pointer (some p), .int .i64 n] w fun e w' => e = .returned (.tuple #[.int .i64 0, .int .i64 1]) ∧ w = w' := by
  have t1 : decide (n < 1) = true := by simpa using hn
  go_enter Try.func23, Try.ntmps23
  go_wp2
  go_ret2
  exact ⟨rfl, rfl⟩
/-- What the document's Alloc does. -/
def RAP (A : Ar) (l : List Rg) (most : Int) (n B h d : Nat) (Lv : Value) (w : World) (e : Ending) (w' : World) : Prop :=
  ((gapL A.rs 0 A.size n = none ∨ most - A.used < n) ∧ e = .returned (.tuple #[.int .i64 0, .int .i64 3]) ∧ Below w.heap.size w w') ∨
  ∃ base, gapL A.rs 0 A.size n = some base ∧ ¬ most - A.used < n ∧ e = .returned (.tuple #[.int .i64 ((A.last + 1 : Nat) : Int), .int .i64 0]) ∧ ∃ Lv', RefAt w' B h d (A.alloc base n) (l ++ [⟨A.last + 1, base, n⟩]) most Lv' ∧ Only ([h, d] ++ Lv.ownBlock.toList) w w'
theorem Int64w {x : Int} (h1 : -9223372036854775808 ≤ x) (h2 : x ≤ 9223372036854775807) : IntKind.i64.wrap x = x := IntWalk.i64_in _ ⟨h1, h2⟩
theorem ralloc_fin {W0 W5 W6 : World} {B h d base n : Nat} {A : Ar} {l : List Rg} {most : Int} {Lv Lv' : Value} (q : RefAt W0 B h d A l most Lv) (onb : Lv.ownBlock ≠ some h)
    (b5 : Below ((W0.setCell ⟨h, 3, none⟩ (.int .i64 ((A.last : Int) + 1))).setCell ⟨h, 4, none⟩ (.int .i64 ((A.used : Int) + n))).heap.size ((W0.setCell ⟨h, 3, none⟩ (.int .i64 ((A.last : Int) + 1))).setCell ⟨h, 4, none⟩ (.int .i64 ((A.used : Int) + n))) W5)
    (hg6 : W5.grownBy W6 Lv.ownBlock) (ho6 : W6.ownsRow B 55 3 Lv' (l.length + 1) (rrCs (l ++ [⟨A.last + 1, base, n⟩]))) :
    RefAt (W6.setCell ⟨h, 1, none⟩ Lv') B h d (A.alloc base n) (l ++ [⟨A.last + 1, base, n⟩]) most Lv' ∧ Only ([h, d] ++ Lv.ownBlock.toList) W0 (W6.setCell ⟨h, 1, none⟩ Lv') := by
  have ho : Only (Lv.ownBlock.toList) W5 W6 := ⟨hg6.os, hg6.tape, hg6.output, hg6.size, fun k hk hn => hg6.block k hk (fun e => hn (by rw [← e]; simp))⟩
  have onl := q.lt
  have ond : Lv.ownBlock ≠ some d := fun e => by have := (q.own.lt d e).1; omega
  have o1 : Only ([h, d] ++ Lv.ownBlock.toList) W0 ((W0.setCell ⟨h, 3, none⟩ (.int .i64 ((A.last : Int) + 1))).setCell ⟨h, 4, none⟩ (.int .i64 ((A.used : Int) + n))) :=
    ((Only.refl _ _).set (p := ⟨h, 3, none⟩) (.inl (by simp)) _).set (p := ⟨h, 4, none⟩) (.inl (by simp)) _
  have o2 := (o1.trans (Only.ofBelow _ b5)).trans (ho.mono (fun x hx => by simp; exact .inr (.inr (by simpa using hx))))
  have o3 := o2.set (p := ⟨h, 1, none⟩) (.inl (by simp)) Lv'
  have onb' : Lv'.ownBlock ≠ some h := fun e => by have := (ho6.lt h e).1; omega
  have hp := (insR_perm ⟨A.last + 1, base, n⟩ A.rs).trans ((q.perm.cons _).trans (List.perm_append_singleton ⟨A.last + 1, base, n⟩ l).symm)
  refine ⟨⟨?_, ?_, ?_, hp, q.hd, q.lt⟩, o3⟩
  · have x1 := (((q.head.set 3 (.int .i64 ((A.last : Int) + 1))).set 4 (.int .i64 ((A.used : Int) + n))).below b5).only ho (by simpa using onb)
    refine (x1.set 1 Lv').cast ?_
    rw [used_alloc]
    simp [Ar.alloc]
  · rw [List.length_append]
    exact own_off ho6 (S := [h]) ((Only.refl _ _).set (p := ⟨h, 1, none⟩) (.inl (by simp)) _) (by intro x hx; simp at hx; subst hx; exact onb')
  · exact (((((q.rows.far (p := ⟨h, 3, none⟩) (Ne.symm q.hd) _).far (p := ⟨h, 4, none⟩) (Ne.symm q.hd) _).below b5).only ho (by simpa using ond)).far (p := ⟨h, 1, none⟩) (Ne.symm q.hd) _)
set_option maxHeartbeats 4000000 in
set_option maxRecDepth 100000 in
theorem ralloc_c (A : Ar) (hA : A.ok) (l : List Rg) (hl : l.length ≤ 100000) (hlast : A.last ≤ 1000000000) (n : Nat) (hn : 1 ≤ n) (hn2 : n ≤ 9223372036854775807) (B h d : Nat) (most : Int) (hm0 : 0 ≤ most) (hm1 : most ≤ 1048576) (Lv : Value) (w : World) (hB : B ≤ w.heap.size) (q : RefAt w B h d A l most Lv) :
    Calls Try.prog 23 #[.pointer (some ⟨h, 0, none⟩), .int .i64 n] w (RAP A l most n B h d Lv w) := by
  obtain ⟨i0, hi, hz0, hz1, hz2⟩ := info_parts rrInfo
  have HQ := Lib.hid q
  have H := Lib.hid hA
  have hsz := hA.size
  have hub := hA.used_le
  have hbl : ∀ r ∈ l, r.b + r.n ≤ 1048576 := fun r hr => by have := hA.each r (q.perm.mem_iff.2 hr); omega
  have FC := Lib.hid (fun (W : World) (x : Nat) (q : RefAt W B h d A l most Lv) => risf_c A l (by omega) hbl x B h d most W Lv q)
  have FP : Hid (∀ x, freeB l x = freeB A.rs x) := Lib.hid (fun x => (freeB_perm q.perm x).symm)
  have t1 : decide ((n : Int) < 1) = false := by simp; omega
  have t2 : decide ((0 : Int) ≤ most) = true := by simpa using hm0
  clear q hA hbl
  go_enter Try.func23, Try.ntmps23
  go_wp2_with fail
  go_loopw [6, 7] (fun r a wr => ∃ (at_ run : Nat), at_ ≤ A.size ∧ a = .int .i64 at_ ∧ r = .int .i64 run ∧ Seek A.rs n at_ run ∧ Below w.heap.size w wr) (fun _ a _ => A.size - (intOf a).toNat)
  case atStart => exact ⟨0, 0, by omega, rfl, rfl, Seek.start _ hn, Below.refl _ _⟩
  case round =>
    obtain ⟨at_, run, hat, rfl, rfl, hS, hBr⟩ := hrel
    have SK := Lib.hid hS
    have HB := Lib.hid hBr
    have hrl := hS.le
    have hrn := hS.lt
    have c0 := (HQ.out.below hBr).head.cell 0
    simp at c0
    clear hS hBr
    by_cases hlt : at_ < A.size
    · have t3 : decide (at_ < A.size) = true := by simpa using hlt
      have t4 : decide ((at_ : Int) < (A.size : Int)) = true := by simp; omega
      cases hf : freeB A.rs at_ with
      | false =>
        have C := FC.out _ at_ (HQ.out.below HB.out)
        rw [FP.out, hf] at C
        have C' := Lib.hid C
        have NX := Lib.hid (SK.out.taken hf)
        clear C hf
        go_wp2_with fail
        refine C'.out.mono ?_
        rintro e w1 ⟨rfl, k1⟩
        have HB1 := Lib.hid (below_step HB.out k1)
        clear k1
        go_wp2_with fail
        go_roundw
        case rel => exact ⟨at_ + 1, 0, by omega, by go_num, rfl, NX.out, HB1.out⟩
        case measure => simp [intOf]; omega
      | true =>
        have C := FC.out _ at_ (HQ.out.below HB.out)
        rw [FP.out, hf] at C
        have C' := Lib.hid C
        have HF := Lib.hid hf
        clear C hf
        by_cases hrn1 : run + 1 = n
        · have HG := Lib.hid (SK.out.found H.out HF.out hrn1 hlt)
          have t5 : ((run : Int) + 1 == (n : Int)) = true := by simp; omega
          go_wp2_with fail
          refine C'.out.mono ?_
          rintro e w1 ⟨rfl, k1⟩
          have HB1 := Lib.hid (below_step HB.out k1)
          have HQ1 := Lib.hid (HQ.out.below HB1.out)
          have c4 := HQ1.out.head.cell 4
          have c5 := HQ1.out.head.cell 5
          simp at c4 c5
          clear k1 c0
          by_cases hq : most - A.used < n
          · have t6 : decide (most - (A.used : Int) < (n : Int)) = true := by simpa using hq
            go_wp2_with fail
            go_quiet (fail)
            go_wp2_with fail
            go_ret2
            exact .inl ⟨.inr hq, rfl, below_draws HB1.out _⟩
          · have t6 : decide (most - (A.used : Int) < (n : Int)) = false := by simpa using hq
            go_wp2_with fail
            go_quiet (fail)
            have HQ3 := Lib.hid (HQ1.out.below (below_draws (Below.refl _ _) nq))
            have HB3 := Lib.hid (below_draws HB1.out nq)
            clear HQ1 HB1
            generalize w1.drewN nq = W0 at *
            have c3 := HQ3.out.head.cell 3
            have f3 := HQ3.out.head.free 3
            have f4 := HQ3.out.head.free 4
            have c4 := HQ3.out.head.cell 4
            have hh := HQ3.out.head.lt
            simp at c3 c4
            have gf := (gapL_some H.out.sorted (fun r hr => ⟨Nat.zero_le _, (H.out.each r hr).2.1⟩) HG.out).2.1
            go_upto_region 15 with fail
            have HX0 := Lib.hid ((HQ3.out.head.set 3 (.int .i64 ((A.last : Int) + 1))).set 4 (.int .i64 ((A.used : Int) + n)))
            have onb : Lv.ownBlock ≠ some h := fun e => by have := (HQ3.out.own.lt h e).1; have := HQ3.out.lt; omega
            have HW4 := Lib.hid (own_off HQ3.out.own (S := [h]) ((((Only.refl [h] W0).set (p := ⟨h, 3, none⟩) (.inl (by simp)) (.int .i64 ((A.last : Int) + 1))).set (p := ⟨h, 4, none⟩) (.inl (by simp)) (.int .i64 ((A.used : Int) + n)))) (by intro x hx; simp at hx; subst hx; exact onb))
            have FIN := Lib.hid (fun (W5 W6 : World) Lv' (b5 : Below ((W0.setCell ⟨h, 3, none⟩ (.int .i64 ((A.last : Int) + 1))).setCell ⟨h, 4, none⟩ (.int .i64 ((A.used : Int) + n))).heap.size ((W0.setCell ⟨h, 3, none⟩ (.int .i64 ((A.last : Int) + 1))).setCell ⟨h, 4, none⟩ (.int .i64 ((A.used : Int) + n))) W5) (hg6 : W5.grownBy W6 Lv.ownBlock) ho6 => ralloc_fin (W6 := W6) (Lv' := Lv') HQ3.out onb (base := at_ + 1 - n) b5 hg6 ho6)
            have hs4 : W0.heap.size = ((W0.setCell ⟨h, 3, none⟩ (.int .i64 ((A.last : Int) + 1))).setCell ⟨h, 4, none⟩ (.int .i64 ((A.used : Int) + n))).heap.size := by simp
            have sB3 := HB3.out.size
            generalize (W0.setCell ⟨h, 3, none⟩ (.int .i64 ((A.last : Int) + 1))).setCell ⟨h, 4, none⟩ (.int .i64 ((A.used : Int) + n)) = W4 at *
            have c1 : W4.cell? ⟨h, 1, none⟩ = some Lv := by have := HX0.out.cell 1; simpa using this
            have c3 : W4.cell? ⟨h, 3, none⟩ = some (.int .i64 ((A.last : Int) + 1)) := by have := HX0.out.cell 3; simpa using this
            have HS := Lib.hid (fun w' (hb : Below W4.heap.size W4 w') => (⟨((bcell hb).1 h 1 (by omega)).trans c1, ((bcell hb).1 h 3 (by omega)).trans c3⟩ : w'.cell? ⟨h, 1, none⟩ = some Lv ∧ w'.cell? ⟨h, 3, none⟩ = some (.int .i64 ((A.last : Int) + 1))))
            have HS2 := Lib.hid (fun W5 (b5 : Below W4.heap.size W4 W5) (W6 : World) (g6 : W5.grownBy W6 Lv.ownBlock) => (by
              have hb6 := (HX0.out.below b5).grown g6 (fun e => onb e.symm)
              have h1 := hb6.cell 1
              have h3 := hb6.cell 3
              simp at h1 h3
              exact ⟨h1, h3⟩ : W6.cell? ⟨h, 1, none⟩ = some Lv ∧ W6.cell? ⟨h, 3, none⟩ = some (.int .i64 ((A.last : Int) + 1))))
            have wf1 : IntKind.i64.wrap ((at_ : Int) - (n : Int)) = (at_ : Int) - (n : Int) := Int64w (by omega) (by omega)
            have wf2 : IntKind.i64.wrap ((at_ : Int) - (n : Int) + 1) = (at_ : Int) - (n : Int) + 1 := Int64w (by omega) (by omega)
            refine wp_region_held_pop (S := fun w' => w'.cell? ⟨h, 1, none⟩ = some Lv ∧ w'.cell? ⟨h, 3, none⟩ = some (.int .i64 ((A.last : Int) + 1))) 17 (by kernel_rfl) (by decide) (by kernel_rfl) (HS.out _ (below_draws (Below.refl _ _) 1)) (fun hHeld => ?_)
            have HW4 := Lib.hid (show W4.drew.ownsRow B 55 3 Lv l.length (rrCs l) from HW4.out)
            have FIN := Lib.hid (fun (W5 W6 : World) Lv' (b5 : Below W4.drew.heap.size W4.drew W5) (hg6 : W5.grownBy W6 Lv.ownBlock) ho6 => FIN.out W5 W6 Lv' (below_step (below_draws (Below.refl _ _) 1) b5) hg6 ho6)
            have HS := Lib.hid (fun w' (hb : Below W4.drew.heap.size W4.drew w') => HS.out w' (below_step (below_draws (Below.refl _ _) 1) hb))
            have HS2 := Lib.hid (fun W5 (b5 : Below W4.drew.heap.size W4.drew W5) (W6 : World) (g6 : W5.grownBy W6 Lv.ownBlock) => HS2.out W5 (below_step (below_draws (Below.refl _ _) 1) b5) W6 g6)
            have hs4 : W0.heap.size = W4.drew.heap.size := hs4
            have HX0 := Lib.hid (show Blk W4.drew h 49 _ from HX0.out)
            clear c1 c3 c4 f3 f4
            simp only [List.take_succ_cons, List.take_zero, List.drop_succ_cons, List.drop_zero]
            generalize W4.drew = W4 at *
            refine' wpAnyH_take (i := 0) (v := _) rfl (by kernel_rfl) (by kernel_rfl) (by kernel_rfl) (fun _ _ _ h => h) (Or.inl ⟨by kernel_rfl, ?hy0⟩) (by assumption) ?r0
            case hy0 => (intro w hSw; (try dsimp only at hSw); go_simp; with_reducible rfl)
            try simp only [Act.put]
            refine' wpAnyH_take (i := 1) (v := _) rfl (by kernel_rfl) (by kernel_rfl) (by kernel_rfl) (fun _ _ _ h => h) (Or.inl ⟨by kernel_rfl, ?hy1⟩) (by assumption) ?r1
            case hy1 => (intro w hSw; (try dsimp only at hSw); go_simp; with_reducible rfl)
            try simp only [Act.put]
            refine' wpAnyH_take (i := 2) (v := _) rfl (by kernel_rfl) (by kernel_rfl) (by kernel_rfl) (fun _ _ _ h => h) (Or.inl ⟨by kernel_rfl, ?hy2⟩) (by assumption) ?r2
            case hy2 => (intro w hSw; (try dsimp only at hSw); go_simp; with_reducible rfl)
            try simp only [Act.put]
            refine' wpAnyH_take (i := 3) (v := _) rfl (by kernel_rfl) (by kernel_rfl) (by kernel_rfl) (fun _ _ _ h => h) (Or.inl ⟨by kernel_rfl, ?hy3⟩) (by assumption) ?r3
            case hy3 => (intro w hSw; (try dsimp only at hSw); go_simp; with_reducible rfl)
            try simp only [Act.put]
            refine' wpAnyH_take (i := 4) (v := _) rfl (by kernel_rfl) (by kernel_rfl) (by kernel_rfl) (fun _ _ _ h => h) (Or.inl ⟨by kernel_rfl, ?hy4⟩) (by assumption) ?r4
            case hy4 => (intro w hSw; obtain ⟨hq1, hq3⟩ := hSw; go_simp; with_reducible rfl)
            try simp only [Act.put]
            refine' wpAnyH_take (i := 5) (v := _) rfl (by kernel_rfl) (by kernel_rfl) (by kernel_rfl) (fun _ _ _ h => h) (Or.inl ⟨by kernel_rfl, ?hy5⟩) (by assumption) ?r5
            case hy5 => (intro w hSw; (try dsimp only at hSw); go_simp; with_reducible rfl)
            try simp only [Act.put]
            refine' wpAnyH_take (i := 6) (v := _) rfl (by kernel_rfl) (by kernel_rfl) (by kernel_rfl) (fun _ _ _ h => h) (Or.inl ⟨by kernel_rfl, ?hy6⟩) (by assumption) ?r6
            case hy6 => (intro w hSw; (try dsimp only at hSw); go_simp; with_reducible rfl)
            try simp only [Act.put]
            refine' wpAnyH_take (i := 7) (v := _) rfl (by kernel_rfl) (by kernel_rfl) (by kernel_rfl) (fun _ _ _ h => h) (Or.inl ⟨by kernel_rfl, ?hy7⟩) (by assumption) ?r7
            case hy7 => (intro w hSw; (try dsimp only at hSw); go_simp; with_reducible rfl)
            try simp only [Act.put]
            refine' wpAnyH_take (i := 8) (v := _) rfl (by kernel_rfl) (by kernel_rfl) (by kernel_rfl) (fun _ _ _ h => h) (Or.inl ⟨by kernel_rfl, ?hy8⟩) (by assumption) ?r8
            case hy8 => (intro w hSw; obtain ⟨hq1, hq3⟩ := hSw; go_simp; with_reducible rfl)
            try simp only [Act.put]
            refine' wpAnyH_take (i := 9) (v := _) rfl (by kernel_rfl) (by kernel_rfl) (by kernel_rfl) (fun _ _ _ h => h) (Or.inl ⟨by kernel_rfl, ?hy9⟩) (by assumption) ?r9
            case hy9 => (intro w hSw; (try dsimp only at hSw); go_simp; with_reducible rfl)
            try simp only [Act.put]
            refine' wpAnyH_take (i := 10) (v := _) rfl (by kernel_rfl) (by kernel_rfl) (by kernel_rfl) (fun _ _ _ h => h) (Or.inl ⟨by kernel_rfl, ?hy10⟩) (by assumption) ?r10
            case hy10 => (intro w hSw; (try dsimp only at hSw); go_simp; with_reducible rfl)
            try simp only [Act.put]
            refine' wpAnyH_take (i := 11) (v := _) rfl (by kernel_rfl) (by kernel_rfl) (by kernel_rfl) (fun _ _ _ h => h) (Or.inl ⟨by kernel_rfl, ?hy11⟩) (by assumption) ?r11
            case hy11 => (intro w hSw; (try dsimp only at hSw); go_simp; with_reducible rfl)
            try simp only [Act.put]
            refine' wpAnyH_take (i := 12) (v := _) rfl (by kernel_rfl) (by kernel_rfl) (by kernel_rfl) (fun _ _ _ h => h) (Or.inl ⟨by kernel_rfl, ?hy12⟩) (by assumption) ?r12
            case hy12 => (intro w hSw; (try dsimp only at hSw); go_simp; with_reducible rfl)
            try simp only [Act.put]
            refine' wpAnyH_take (i := 13) (v := _) rfl (by kernel_rfl) (by kernel_rfl) (by kernel_rfl) (fun _ _ _ h => h) (Or.inl ⟨by kernel_rfl, ?hy13⟩) (by assumption) ?r13
            case hy13 => (intro w hSw; (try dsimp only at hSw); go_simp; with_reducible rfl)
            try simp only [Act.put]
            refine' wpAnyH_take (i := 14) (v := _) rfl (by kernel_rfl) (by kernel_rfl) (by kernel_rfl) (fun _ _ _ h => h) (Or.inl ⟨by kernel_rfl, ?hy14⟩) (by assumption) ?r14
            case hy14 => (intro w hSw; (try dsimp only at hSw); go_simp; with_reducible rfl)
            try simp only [Act.put]
            refine wpAnyH_ready (rs := [15]) (by kernel_rfl) (by simp) (AllReadyH.cons rfl (fun K' hK => ?_) AllReadyH.nil)
            go_simp
            have W5 := Lib.hid (below_alloc (Below.refl _ W4) (.cells #[.int .i64 ((A.last : Int) + 1), .int .i64 ((at_ : Int) - (n : Nat) + 1), .int .i64 (n : Nat)] 55))
            have hnews := cells_three_new W4 55 (.int .i64 ((A.last : Int) + 1)) (.int .i64 ((at_ : Int) - (n : Nat) + 1)) (.int .i64 (n : Nat))
            have hown := HW4.out.alloc (.cells #[.int .i64 ((A.last : Int) + 1), .int .i64 ((at_ : Int) - (n : Nat) + 1), .int .i64 (n : Nat)] 55)
            have hs5 := W5.out.size
            refine hK.out _ _ (HS.out _ W5.out) (fun hHeld => ?_)
            clear hK K'
            refine wpAnyH_ready (rs := [16]) (by kernel_rfl) (by simp) (AllReadyH.cons rfl (fun K' hK => ?_) AllReadyH.nil)
            rw [if_pos (by kernel_rfl)]
            refine wp_append_own _ (.tmp 64) (.tmp 75) 47 rfl B 55 i0 _ 3 24 Try.underlying47 hi hz0 hz1 hz2 rfl (by omega) Lv _ _ rfl hown _ 1 1 [.int .i64 ((A.last : Int) + 1), .int .i64 ((at_ : Int) - (n : Nat) + 1), .int .i64 (n : Nat)] rfl rfl hnews (by intro y hy; simp at hy; rcases hy with rfl | rfl | rfl <;> rfl) (by unfold maxLen; omega) (by omega) (by omega) ?_
            intro Lv' W6 hown6 hgr6 _
            obtain ⟨ao', cap', rfl, -⟩ := own_form hown6
            have HG6 := Lib.hid hgr6
            have HO6 := Lib.hid hown6
            refine hK.out _ _ (HS2.out _ W5.out _ hgr6) (fun hHeld => ?_)
            clear hK K' hown hnews hown6 hgr6
            clear hHeld
            refine wpAnyH_done (by kernel_rfl) ?_ _
            rw [PopQ_normal]
            have hb6 := (HX0.out.below W5.out).grown HG6.out (fun e => onb e.symm)
            have c1 := hb6.cell 1
            have f1 := hb6.free 1
            have c3 := hb6.cell 3
            simp at c1 c3
            have hs6 : h < W6.heap.size := hb6.lt
            clear hb6
            go_wp2_with fail
            go_ret2
            have hcs : rrCs l ++ [.int .i64 ((A.last : Int) + 1), .int .i64 ((at_ : Int) - (n : Nat) + 1), .int .i64 (n : Nat)] = rrCs (l ++ [⟨A.last + 1, at_ + 1 - n, n⟩]) := by
              rw [rrCs_app]
              have e1 : ((A.last : Int) + 1) = ((A.last + 1 : Nat) : Int) := by omega
              have e2 : ((at_ : Int) - (n : Nat) + 1) = ((at_ + 1 - n : Nat) : Int) := by omega
              rw [e1, e2]
              rfl
            have ho6 := HO6.out
            rw [hcs] at ho6
            obtain ⟨r1, r2⟩ := FIN.out _ _ _ W5.out HG6.out ho6
            exact .inr ⟨_, HG.out, by omega, rfl, _, r1, (Only.ofBelow _ HB3.out).trans r2⟩
        · have NX := Lib.hid (SK.out.one HF.out hrn1)
          have t5 : ((run : Int) + 1 == (n : Int)) = false := by simp; omega
          go_wp2_with fail
          refine C'.out.mono ?_
          rintro e w1 ⟨rfl, k1⟩
          have HB1 := Lib.hid (below_step HB.out k1)
          clear k1
          go_wp2_with fail
          go_roundw
          case rel => exact ⟨at_ + 1, run + 1, by omega, by go_num, by go_num, NX.out, HB1.out⟩
          case measure => simp [intOf]; omega
    · have e : at_ = A.size := by omega
      subst e
      have HG := Lib.hid (SK.out.end H.out)
      have t3 : ¬ A.size < A.size := by omega
      go_wp2_with fail
      go_ret2
      exact .inl ⟨.inl HG.out, rfl, HB.out⟩
end Go.Proofs.Ytgckncggcdmaaaa
