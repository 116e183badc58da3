/- The walk of RulesNames. -/
import Derived.Test.YtokfcndhmbkelaaSplit06
namespace Go.Proofs.Ytokfcndhmbkelaa
open Go.RowKit
theorem let_ne : ∀ b, b < 256 → letB b = true → b ≠ 10 ∧ b ≠ 35 := by decide +kernel
theorem let_colon : letB 58 = false := by decide
theorem lineB_all : ∀ l : List UInt8, (∀ c ∈ l, c ≠ 10) → lineB l = l
  | [], _ => rfl
  | c :: r, h => by
    have ih := lineB_all r (fun x hx => h x (List.mem_cons_of_mem _ hx))
    have hc : (c != 10) = true := by rw [bne_iff_ne]; exact h c List.mem_cons_self
    unfold lineB at *
    rw [List.takeWhile_cons, hc, if_pos rfl, ih]
theorem headN_name (t : List UInt8) : ∀ (n : Nat) (l : List UInt8), l.length ≤ n → allB l = true → headN n (l ++ 58 :: t) = l.length
  | 0, l, h, _ => by
    have e : l = [] := List.eq_nil_of_length_eq_zero (by omega)
    subst e; rfl
  | n + 1, [], _, _ => by
    show (if letB (58 : UInt8).toNat then _ else _) = _
    rw [show letB (58 : UInt8).toNat = false from let_colon]; rfl
  | n + 1, c :: r, h, ha => by
    have hc : letB c.toNat = true ∧ allB r = true := by unfold allB at *; simpa using ha
    have ih := headN_name t n r (by simpa using h) hc.2
    show (if letB c.toNat then headN n (r ++ 58 :: t) + 1 else 0) = _
    rw [hc.1, if_pos rfl, ih]; rfl
theorem allB_ne {l : List UInt8} (h : allB l = true) : ∀ c ∈ l, c ≠ 10 ∧ c ≠ 35 := fun c hc => by
  have h1 : letB c.toNat = true := (List.all_eq_true.1 h) c hc
  have := let_ne _ (UInt8.toNat_lt c) h1
  exact ⟨fun e => this.1 (by rw [e]; rfl), fun e => this.2 (by rw [e]; rfl)⟩
/-- A line of one rule. -/
theorem rule_line {l t : List UInt8} (h : nameB l = true) (ht : nlB t = false) : lineB (l ++ 58 :: t) = l ++ 58 :: t ∧ headN 12 (l ++ 58 :: t) = l.length ∧ skipB (l ++ 58 :: t) = false ∧ badB (l ++ 58 :: t) = false ∧ 1 ≤ l.length := by
  rw [nameB_eq] at h
  simp only [Bool.and_eq_true, decide_eq_true_eq] at h
  obtain ⟨h1, h2, h3⟩ := h
  have hne := allB_ne h3
  have hh := headN_name t 12 l h2 h3
  have htl : lineB t = t := by
    unfold nlB at ht
    have e : (lineB t).length = t.length := by simpa using ht
    rw [← lineB_take, e, List.take_length]
  refine ⟨?_, hh, ?_, ?_, h1⟩
  · clear hh h1 h2 h3
    induction l with
    | nil =>
      show lineB (58 :: t) = _
      unfold lineB at *
      rw [List.takeWhile_cons, show ((58 : UInt8) != 10) = true from rfl, if_pos rfl, htl]; rfl
    | cons c r ih =>
      have ih := ih (fun x hx => hne x (List.mem_cons_of_mem _ hx))
      have hc : (c != 10) = true := by rw [bne_iff_ne]; exact (hne c List.mem_cons_self).1
      rw [List.cons_append]
      unfold lineB at *
      rw [List.takeWhile_cons, hc, if_pos rfl, ih]
  · cases l with
    | nil => simp at h1
    | cons c r =>
      have hc := (hne c List.mem_cons_self).2
      unfold skipB
      have : nth (c :: r ++ 58 :: t) 0 = c.toNat := rfl
      rw [this]
      have : c.toNat ≠ 35 := fun e => hc (UInt8.toNat_inj.1 e)
      simpa using this
  · unfold badB
    rw [hh]
    have e1 : (l.length == 0) = false := by simp; intro e; rw [e] at h1; simp at h1
    have e2 : (l.length == (l ++ 58 :: t).length) = false := by simp
    have e3 : nth (l ++ 58 :: t) l.length = 58 := by
      unfold nth
      rw [List.getD_eq_getElem?_getD, List.getElem?_append_right (Nat.le_refl _), Nat.sub_self]; rfl
    rw [e1, e2, e3]; rfl
theorem lnOf_rule {l t : List UInt8} (a : Nat) (h : headN 12 (l ++ 58 :: t) = l.length) : lnOf (l ++ 58 :: t) a = ⟨l, t, ((a + l.length + 1 : Nat) : Int)⟩ := by
  unfold lnOf
  rw [h]
  congr 1
  · exact List.take_left
  · rw [← List.drop_drop, List.drop_left]; rfl
theorem split_name {l : List UInt8} (h : nameB l = true) : splitB (l ++ [58, 120]) = .ok [⟨l, [120], ((l.length + 1 : Nat) : Int)⟩] := by
  obtain ⟨h1, h2, h3, h4, h5⟩ := rule_line h (t := [120]) (by decide)
  have hlen : l.length ≤ 12 := by rw [nameB_eq] at h; simp at h; omega
  have hb : ¬ 1000 < (l ++ [58, 120]).length := by simp; omega
  have hr : runF ((l ++ [58, 120]).length + 1) (l ++ [58, 120]) 0 [] = .ok [lnOf (l ++ [58, 120]) 0] := by
    rw [runF.eq_2, h1, if_neg (by rw [h3]; simp), if_neg (by rw [h4]; simp), if_neg (by intro h; rcases h with h | h; simp at h; exact absurd h (by simp [hasName])), if_pos rfl]; rfl
  rw [splitB_ok hb hr, if_neg (by simp), lnOf_rule 0 h2, Nat.zero_add]
set_option maxHeartbeats 4000000 in
set_option maxRecDepth 100000 in
theorem rulesNames_c (l : List UInt8) (w : World) : Calls Try.prog 6 #[str l] w fun e w' => e = .returned (.bool true) ∧ Below w.heap.size w w' := by
  have hs := mk_size l
  have AW := Lib.hid awake_c
  have SC := Lib.hid (fun (h : (l ++ [58, 120]).length ≤ 1000000) w1 => split_c (l ++ [58, 120]) h w1)
  have NC := Lib.hid (fun (h : l.length ≤ 1000000) w1 => name_c l h w1)
  have RC := Lib.hid (fun (h : l.length ≤ 1000000) w1 => rname_c l h w1)
  have SE := Lib.hid (show (ByteArray.mk l.toArray) ++ ⟨#[58, 120]⟩ = ⟨(l ++ [58, 120]).toArray⟩ by rw [show (⟨#[58, 120]⟩ : ByteArray) = ⟨[58, 120].toArray⟩ from rfl, mk_app])
  have SN := Lib.hid (fun h => split_name (l := l) h)
  unfold str at *
  rw [← SE.out] at SC
  have XE := Lib.hid (show str l = .string ⟨l.toArray⟩ from rfl)
  generalize (ByteArray.mk l.toArray) = s at *
  have HS := Lib.hid hs
  clear hs
  by_cases hbig : 300 < s.size
  · have t1 : decide ((300 : Int) < (s.size : Nat)) = true := by simp; omega
    go_enter Try.func6, Try.ntmps6
    go_wp2_with fail
    refine (AW.out _).mono ?_; rintro e w1 ⟨rfl, b1⟩
    have B1 := Lib.hid b1
    clear b1
    go_wp2_with fail
    refine (AW.out _).mono ?_; rintro e w2 ⟨rfl, b2⟩
    have B2 := Lib.hid (below_step B1.out b2)
    clear b2
    go_wp2_with fail
    go_returns
    exact ⟨rfl, B2.out⟩
  · have hl : l.length ≤ 1000000 := by have := HS.out; omega
    have hl2 : (l ++ [58, 120]).length ≤ 1000000 := by have := HS.out; simp; omega
    have hsm : s.size ≤ 300 := by omega
    have t1 : decide ((300 : Int) < (s.size : Nat)) = false := by simp; omega
    clear hbig
    go_enter Try.func6, Try.ntmps6
    go_wp2_with fail
    refine (AW.out _).mono ?_; rintro e w1 ⟨rfl, b1⟩
    have B1 := Lib.hid b1
    clear b1
    go_wp2_with fail
    refine (SC.out hl2 _).mono ?_; rintro e w2 ⟨v1, n1, k1, rfl, hr1, b2⟩
    have HR1 := Lib.hid hr1
    have B2 := Lib.hid (below_step B1.out b2)
    clear hr1 b2
    go_wp2_with fail
    refine (RC.out hl _).mono ?_; rintro e w3 ⟨rfl, rfl⟩
    cases hnm : nameB l with
    | false =>
      go_wp2_with fail
      refine (NC.out hl _).mono ?_; rintro e w4 ⟨rfl, rfl⟩
      rw [hnm]
      go_wp2_with fail
      go_returns
      exact ⟨rfl, B2.out⟩
    | true =>
      have hr1 := HR1.out
      rw [SN.out hnm] at hr1
      obtain ⟨h1, rfl, rfl⟩ := hr1
      obtain ⟨A, cap, rfl, _, hc⟩ := h1
      obtain ⟨g, o, rfl, _, hg, hcell⟩ := hc (by simp)
      have c0 := (hcell 0 (by simp)).1
      rw [show str ([(⟨l, [120], ((l.length + 1 : Nat) : Int)⟩ : Ln)][0]'(by simp)).name = .string s from XE.out, Nat.zero_mul, Nat.add_zero] at c0
      clear hc hcell HR1
      simp only [List.length_singleton] at *
      go_wp2_with fail
      refine (NC.out hl _).mono ?_; rintro e w4 ⟨rfl, rfl⟩
      rw [hnm]
      clear hnm
      go_wp2_with fail
      go_returns
      exact ⟨rfl, B2.out⟩
end Go.Proofs.Ytokfcndhmbkelaa
