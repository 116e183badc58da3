/- What no region has holds noughts. -/
import Derived.Test.YtgckncggcdmaaaaArCell
import Derived.Deep.RegionHeld
namespace Go.Proofs.Ytgckncggcdmaaaa
open Go.RowKit Go.Maps
theorem clean1_c (x : Int) (w : World) : Calls Try.prog 34 #[.int .i64 x] w fun e w' => e = .returned (.bool (x != 0)) ∧ w = w' := by
  go_enter Try.func34, Try.ntmps34
  go_wp2
  go_ret
  exact ⟨rfl, rfl⟩
/-- A slice of noughts. -/
def ZerosAt (w : World) (n : Nat) (v : Value) : Prop := ∃ ao cap, v = .slice ao n cap ∧ (0 < n → ∃ c o, ao = some ⟨c, o, none⟩ ∧ ∀ j, j < n → w.cell? ⟨c, o + j, none⟩ = some (.int .i64 0))
set_option maxHeartbeats 1000000 in
set_option maxRecDepth 100000 in
theorem idxf_c (n : Nat) (hn : n ≤ 1048576) (v : Value) (w : World) (h : ZerosAt w n v) : Calls Try.prog 44 #[v, .func (.func 34) #[] #[]] w fun e w' => e = .returned (.int .i64 (-1)) ∧ w = w' := by
  obtain ⟨ao, cap, rfl, hc⟩ := h
  have HC := Lib.hid hc
  have C1 := Lib.hid (fun w => clean1_c 0 w)
  clear hc
  go_enter Try.func44, Try.ntmps44
  go_wp2_with fail
  go_loop [8] (fun i => ∃ k : Nat, k ≤ n ∧ i = .int .i64 k) (fun i => n - (intOf i).toNat)
  case atStart => exact ⟨0, by omega, rfl⟩
  case round =>
    obtain ⟨k, hk, rfl⟩ := hrel
    by_cases hlt : k < n
    · obtain ⟨c, o, rfl, hcell⟩ := HC.out (by omega)
      have c0 := hcell k hlt
      have t0 : decide (k < n) = true := by simp; omega
      have t2 : (k : Int) < (n : Nat) := by omega
      clear hcell
      go_wp2_with fail
      refine (C1.out _).mono ?_
      rintro e w1 ⟨rfl, rfl⟩
      go_wp2_with fail
      go_round
      case rel => exact ⟨k + 1, by omega, by go_num⟩
      case measure => simp [intOf]; omega
    · have e : k = n := by omega
      subst e
      have t0 : ¬ k < k := by omega
      go_wp2_with fail
      go_ret
      exact ⟨rfl, rfl⟩
set_option maxHeartbeats 1000000 in
theorem cont_c (n : Nat) (hn : n ≤ 1048576) (v : Value) (w : World) (h : ZerosAt w n v) : Calls Try.prog 33 #[v, .func (.func 34) #[] #[]] w fun e w' => e = .returned (.bool false) ∧ w = w' := by
  have IC := Lib.hid (idxf_c n hn v w h)
  clear h
  go_enter Try.func33, Try.ntmps33
  go_wp2_with fail
  refine IC.out.mono ?_
  rintro e w1 ⟨rfl, rfl⟩
  go_wp2_with fail
  go_ret
  exact ⟨rfl, rfl⟩
theorem clean_none (w : World) : Calls Try.prog 19 #[.pointer none] w fun e w' => e = .returned (.bool true) ∧ w = w' := by
  go_enter Try.func19, Try.ntmps19
  go_wp2
  go_ret
  exact ⟨rfl, rfl⟩
/-- The regions, and the end. -/
def lst (A : Ar) : List (Int × Int) := prs A.rs ++ [((A.size : Int), 0)]
theorem lst_len (A : Ar) : (lst A).length = A.rs.length + 1 := by unfold lst; rw [List.length_append, prs_len]; rfl
/-- At the k-th of them: from where on no region lies before it. -/
structure GapAt (A : Ar) (k at_ : Nat) : Prop where
  le : at_ ≤ A.size
  before : ∀ r ∈ A.rs.take k, r.b + r.n ≤ at_
  behind : ∀ r ∈ A.rs.drop k, at_ ≤ r.b
theorem GapAt.start (A : Ar) : GapAt A 0 0 := ⟨Nat.zero_le _, fun r hr => by simp at hr, fun r _ => Nat.zero_le _⟩
/-- The k-th of the list: where it begins, where it ends. -/
theorem GapAt.step {A : Ar} (h : A.ok) {k at_ : Nat} (g : GapAt A k at_) (hk : k < A.rs.length + 1) : ∃ (rb rn : Nat), (lst A)[k]'(by rw [lst_len]; exact hk) = ((rb : Int), (rn : Int)) ∧ at_ ≤ rb ∧ rb + rn ≤ A.size ∧ (∀ i, at_ ≤ i → i < rb → A.cs[i]? = some 0) ∧ GapAt A (k + 1) (rb + rn) := by
  have hall : ∀ r ∈ A.rs, r ∈ A.rs.take k ∨ r ∈ A.rs.drop k := fun r hr => by
    rw [← List.take_append_drop k A.rs] at hr
    exact List.mem_append.1 hr
  rcases Nat.lt_or_ge k A.rs.length with hlt | hge
  · have hm : A.rs[k] ∈ A.rs := List.getElem_mem hlt
    have he := h.each _ hm
    have hd : A.rs.drop k = A.rs[k] :: A.rs.drop (k + 1) := List.drop_eq_getElem_cons hlt
    have hsort : ∀ r ∈ A.rs.drop (k + 1), A.rs[k].b + A.rs[k].n ≤ r.b := fun r hr => by
      have hp := h.sorted
      rw [← List.take_append_drop k A.rs, hd] at hp
      exact (List.pairwise_cons.1 (List.pairwise_append.1 hp).2.1).1 r hr
    have hb : at_ ≤ A.rs[k].b := g.behind _ (by rw [hd]; exact List.mem_cons_self ..)
    refine ⟨A.rs[k].b, A.rs[k].n, ?_, hb, he.2.1, fun i h1 h2 => ?_, he.2.1, fun r hr => ?_, fun r hr => hsort r hr⟩
    · unfold lst; rw [List.getElem_append_left (by rw [prs_len]; exact hlt)]; exact prs_get hlt
    · refine h.clean i (by omega) fun r hr hin => ?_
      unfold inR at hin
      rcases hall r hr with hr | hr
      · have := g.before r hr; omega
      · rw [hd] at hr
        rcases List.mem_cons.1 hr with e | hr
        · rw [e] at hin; omega
        · have := hsort r hr; omega
    · rw [List.take_succ_eq_append_getElem hlt] at hr
      rcases List.mem_append.1 hr with hr | hr
      · have := g.before r hr; omega
      · rw [List.mem_singleton] at hr; rw [hr]; exact Nat.le_refl _
  · have hke : k = A.rs.length := by omega
    subst hke
    refine ⟨A.size, 0, ?_, g.le, Nat.le_refl _, fun i h1 h2 => ?_, Nat.le_refl _, fun r hr => ?_, fun r hr => ?_⟩
    · unfold lst; rw [List.getElem_append_right (by rw [prs_len]; exact Nat.le_refl _)]; simp
    · refine h.clean i h2 fun r hr hin => ?_
      unfold inR at hin
      rcases hall r hr with hr | hr
      · have := g.before r hr; omega
      · simp at hr
    · rw [List.take_of_length_le (by omega)] at hr
      have := (h.each r hr).2.1
      omega
    · rw [List.drop_of_length_le (by omega)] at hr; cases hr
theorem rgInfo : (Try.prog.info? 62).map (fun i => (i.zero, i.size, i.bytes)) = some (some (.agg #[.int .i64 0, .int .i64 0]), 2, 16) := by kernel_rfl
end Go.Proofs.Ytgckncggcdmaaaa
