/- What the wire's Read and Print answer, in plain words. -/
import Derived.Test.YtgcjfjmnccajeaaWire7
import Derived.Test.YtgcjfjmnccajeaaWire12
namespace Go.Proofs.Ytgcjfjmnccajeaa
open Go.RowKit
def updL (q : Nat → Int) : Nat → List Nat → Nat → Int
  | _, [] => q
  | i, n :: l => updL (upd q i n) (i + 1) l
theorem quotaF_true : ∀ (f : Nat) (q : Nat → Int) (r : List UInt8), (quotaF f q r true).2.2 = true
  | 0, _, _ => rfl
  | f + 1, q, r => by
    unfold quotaF
    rw [rdP_true]
    exact quotaF_true f _ _
theorem quotaF_read : ∀ (f : Nat) (q : Nat → Int) (r : List UInt8), f ≤ 5 → (∃ l r2, readNs most f r = some (l, r2) ∧ quotaF f q r false = (updL q (5 - f) l, r2, false)) ∨ (readNs most f r = none ∧ (quotaF f q r false).2.2 = true)
  | 0, q, r, _ => .inl ⟨[], r, rfl, rfl⟩
  | f + 1, q, r, hf => by
    unfold quotaF
    rcases rdP_read most r with ⟨n, r1, h1, h2⟩ | ⟨h1, h2⟩
    · rw [h2]
      simp only
      rcases quotaF_read f (upd q (5 - (f + 1)) n) r1 (by omega) with ⟨l, r2, h3, h4⟩ | ⟨h3, h4⟩
      · refine .inl ⟨n :: l, r2, by show (match readN most r with | none => none | some (n, r) => match readNs most f r with | none => none | some (l, r2) => some (n :: l, r2)) = _; rw [h1]; simp only; rw [h3], ?_⟩
        rw [h4]
        show _ = (updL (upd q (5 - (f + 1)) n) (5 - (f + 1) + 1) l, r2, false)
        rw [show 5 - (f + 1) + 1 = 5 - f from by omega]
      · exact .inr ⟨by show (match readN most r with | none => none | some (n, r) => match readNs most f r with | none => none | some (l, r2) => some (n :: l, r2)) = _; rw [h1]; simp only; rw [h3], h4⟩
    · refine .inr ⟨by show (match readN most r with | none => none | some (n, r) => match readNs most f r with | none => none | some (l, r2) => some (n :: l, r2)) = _; rw [h1], ?_⟩
      rw [h2]
      exact quotaF_true f _ _
theorem textP_true (r : List UInt8) : (textP r true).2.2 = true := by
  unfold textP
  rw [if_pos (rdP_true 4000 7 0 0 r)]
theorem textP_read (r : List UInt8) : (∃ n r2, readN 4000 r = some (n, r2) ∧ n ≤ r2.length ∧ textP r false = (r2.take n, r2.drop n, false)) ∨ ((∀ n r2, readN 4000 r = some (n, r2) → r2.length < n) ∧ (textP r false).2.2 = true) := by
  unfold textP
  rcases rdP_read 4000 r with ⟨n, r1, h1, h2⟩ | ⟨h1, h2⟩
  · rw [h2]
    simp only
    rw [if_neg (by simp)]
    by_cases h : r1.length < n
    · rw [if_pos h]
      exact .inr ⟨fun n' r2 e => by rw [h1] at e; injection e with e; injection e with e1 e2; rw [← e1, ← e2]; exact h, rfl⟩
    · rw [if_neg h]
      exact .inl ⟨n, r1, h1, by omega, rfl⟩
  · rw [if_pos h2]
    exact .inr ⟨(fun n' r2 e => by rw [h1] at e; cases e), rfl⟩
def RqIs (X : (Nat × Nat) × (Nat → Int) × List UInt8 × List UInt8 × Bool) (r : Rq) (rest : List UInt8) : Prop :=
  X.1.1 = r.kind ∧ X.1.2 = r.tenant ∧ X.2.1 0 = r.q0 ∧ X.2.1 1 = r.q1 ∧ X.2.1 2 = r.q2 ∧ X.2.1 3 = r.q3 ∧ X.2.1 4 = r.q4 ∧ X.2.2.1 = r.text ∧ X.2.2.2.1 = rest ∧ X.2.2.2.2 = false
theorem rqP_one {s : List UInt8} {k t : Nat} {r1 r2 : List UInt8} {b1 b2 : Bool} (h1 : oneB s false = (k, r1, b1)) (h2 : oneB r1 b1 = (t, r2, b2)) : rqP s =
    if k = 1 then ((k, t), (quotaF 5 (fun _ => 0) r2 b2).1, [], (quotaF 5 (fun _ => 0) r2 b2).2) else if k = 2 ∨ k = 3 then ((k, t), (fun _ => 0), (textP r2 b2).1, (textP r2 b2).2) else if k = 4 then ((k, t), (fun _ => 0), [], r2, b2) else ((k, t), (fun _ => 0), [], r2, true) := by
  unfold rqP
  rw [h1]
  simp only
  rw [h2]
theorem rqP_bad {s : List UInt8} {k t : Nat} {r1 r2 : List UInt8} {b1 : Bool} (h1 : oneB s false = (k, r1, b1)) (h2 : oneB r1 b1 = (t, r2, true)) : (rqP s).2.2.2.2 = true := by
  rw [rqP_one h1 h2]
  by_cases k1 : k = 1
  · rw [if_pos k1]; exact quotaF_true 5 (fun _ => 0) r2
  · rw [if_neg k1]
    by_cases k2 : k = 2 ∨ k = 3
    · rw [if_pos k2]; exact textP_true r2
    · rw [if_neg k2]
      by_cases k3 : k = 4
      · rw [if_pos k3]
      · rw [if_neg k3]
theorem rqP_read (s : List UInt8) : (∃ r rest, readQ s = some (r, rest) ∧ RqIs (rqP s) r rest) ∨ (readQ s = none ∧ (rqP s).2.2.2.2 = true) := by
  match s with
  | [] => exact .inr ⟨rfl, rqP_bad (t := 0) (r2 := []) rfl rfl⟩
  | [a] => exact .inr ⟨rfl, rqP_bad (t := 0) (r2 := []) rfl rfl⟩
  | k :: t :: b =>
    have h1 : oneB (k :: t :: b) false = (k.toNat, t :: b, false) := rfl
    have h2 : oneB (t :: b) false = (t.toNat, b, false) := rfl
    rw [rqP_one h1 h2]
    simp only [readQ]
    by_cases k1 : k.toNat = 1
    · rw [if_pos k1, if_pos k1]
      rcases quotaF_read 5 (fun _ => 0) b (Nat.le_refl _) with ⟨l, r2, h3, h4⟩ | ⟨h3, h4⟩
      · have hlen := readNs_len most 5 b l r2 h3
        match l, hlen with
        | [a0, a1, a2, a3, a4], _ =>
          rw [h3, h4]
          refine .inl ⟨_, _, rfl, by simp only; omega, rfl, rfl, rfl, rfl, rfl, rfl, rfl, rfl, rfl⟩
      · rw [h3]
        exact .inr ⟨rfl, h4⟩
    · rw [if_neg k1, if_neg k1]
      by_cases k2 : k.toNat = 2 ∨ k.toNat = 3
      · rw [if_pos k2, if_pos k2]
        rcases textP_read b with ⟨n, r2, h3, h4, h5⟩ | ⟨h3, h4⟩
        · rw [h3, h5]
          simp only
          rw [if_pos h4]
          exact .inl ⟨_, _, rfl, rfl, rfl, rfl, rfl, rfl, rfl, rfl, rfl, rfl, rfl⟩
        · refine .inr ⟨?_, h4⟩
          cases hx : readN 4000 b with
          | none => rfl
          | some p => obtain ⟨n, r2⟩ := p; simp only; rw [if_neg (by have := h3 n r2 hx; omega)]
      · rw [if_neg k2, if_neg k2]
        by_cases k4 : k.toNat = 4
        · rw [if_pos k4, if_pos k4]
          exact .inl ⟨_, _, rfl, by simp only; omega, rfl, rfl, rfl, rfl, rfl, rfl, rfl, rfl, rfl⟩
        · rw [if_neg k4, if_neg k4]
          exact .inr ⟨rfl, rfl⟩
def zeroA : Array Value := #[.int .i64 0, .int .i64 0, .int .i64 0, .int .i64 0, .int .i64 0, .int .i64 0, .int .i64 0, .string { data := #[] }]
theorem readE_some {s rest : List UInt8} {r : Rq} (h : readQ s = some (r, rest)) : readE s = .returned (.tuple #[.agg (rqA r), .string ⟨rest.toArray⟩, .int .i64 0]) := by
  rcases rqP_read s with ⟨r', rest', h1, h2⟩ | ⟨h1, _⟩
  · rw [h] at h1
    injection h1 with h1
    injection h1 with e1 e2
    subst e1 e2
    obtain ⟨a1, a2, a3, a4, a5, a6, a7, a8, a9, a10⟩ := h2
    unfold readE
    rw [if_neg (by rw [a10]; simp)]
    unfold rqTl rqA str
    rw [a1, a2, a3, a4, a5, a6, a7, a8, a9]
  · rw [h] at h1; cases h1
theorem readE_none {s : List UInt8} (h : readQ s = none) : readE s = .returned (.tuple #[.agg zeroA, .string { data := #[] }, .int .i64 10]) := by
  rcases rqP_read s with ⟨r', rest', h1, h2⟩ | ⟨_, h2⟩
  · rw [h] at h1; cases h1
  · unfold readE
    rw [if_pos h2]; rfl
theorem numW_true (n : Int) (l : List UInt8) : (numW n l true).2 = true := by unfold numW; split <;> rfl
theorem numW_in {n : Int} {l : List UInt8} (h : inN n) : numW n l false = (l ++ encN n.toNat, false) := by unfold numW; rw [if_pos (show 0 ≤ n ∧ n ≤ (most : Int) from h)]
theorem numW_out {n : Int} {l : List UInt8} {bd : Bool} (h : ¬ inN n) : (numW n l bd).2 = true := by unfold numW; rw [if_neg (show ¬ (0 ≤ n ∧ n ≤ (most : Int)) from h)]
theorem numsF_true (q : Nat → Int) : ∀ (f : Nat) (l : List UInt8), (numsF q f l true).2 = true
  | 0, _ => rfl
  | f + 1, l => by
    unfold numsF
    rw [numW_true]
    exact numsF_true q f _
theorem numsF_step (q : Nat → Int) (f : Nat) (l : List UInt8) (bd : Bool) : numsF q (f + 1) l bd = numsF q f (numW (q (5 - (f + 1))) l bd).1 (numW (q (5 - (f + 1))) l bd).2 := rfl
theorem numsF_out (q : Nat → Int) : ∀ (f : Nat) (l : List UInt8) (bd : Bool), f ≤ 5 → (∃ i, 5 - f ≤ i ∧ i < 5 ∧ ¬ inN (q i)) → (numsF q f l bd).2 = true
  | 0, _, _, _, ⟨i, h1, h2, _⟩ => by omega
  | f + 1, l, bd, hf, ⟨i, h1, h2, h3⟩ => by
    rw [numsF_step]
    by_cases h : i = 5 - (f + 1)
    · subst h
      rw [numW_out h3]
      exact numsF_true q f _
    · exact numsF_out q f _ _ (by omega) ⟨i, by omega, h2, h3⟩
theorem numsF_in (q0 q1 q2 q3 q4 : Int) (l : List UInt8) (h0 : inN q0) (h1 : inN q1) (h2 : inN q2) (h3 : inN q3) (h4 : inN q4) :
    numsF (qs5 q0 q1 q2 q3 q4) 5 l false = (l ++ encNs [q0.toNat, q1.toNat, q2.toNat, q3.toNat, q4.toNat], false) := by
  rw [numsF_step, show qs5 q0 q1 q2 q3 q4 (5 - (4 + 1)) = q0 from rfl, numW_in h0, numsF_step, show qs5 q0 q1 q2 q3 q4 (5 - (3 + 1)) = q1 from rfl, numW_in h1, numsF_step, show qs5 q0 q1 q2 q3 q4 (5 - (2 + 1)) = q2 from rfl, numW_in h2,
    numsF_step, show qs5 q0 q1 q2 q3 q4 (5 - (1 + 1)) = q3 from rfl, numW_in h3, numsF_step, show qs5 q0 q1 q2 q3 q4 (5 - (0 + 1)) = q4 from rfl, numW_in h4]
  simp [numsF, encNs]
theorem badA_no (r : Rq) : badA r = false ↔ (1 ≤ r.kind ∧ r.kind ≤ 4 ∧ 0 ≤ r.tenant ∧ r.tenant ≤ 255 ∧ r.text.length ≤ 4000 ∧ (r.kind ≠ 2 → r.kind ≠ 3 → r.text = []) ∧ (r.kind ≠ 1 → r.q0 = 0 ∧ r.q1 = 0 ∧ r.q2 = 0 ∧ r.q3 = 0 ∧ r.q4 = 0)) := by
  unfold badA nzQ
  simp only [Bool.or_eq_false_iff, decide_eq_false_iff_not, Bool.and_eq_false_iff, Bool.or_eq_true, beq_iff_eq, Bool.and_eq_true, List.isEmpty_iff, Bool.not_eq_eq_eq_not, Bool.not_false]
  constructor
  · rintro ⟨⟨⟨⟨⟨⟨h1, h2⟩, h3⟩, h4⟩, h5⟩, h6⟩, h7⟩
    refine ⟨by omega, by omega, by omega, by omega, by omega, fun a b => ?_, fun a => ?_⟩
    · rcases h6 with h6 | h6
      · rcases h6 with h6 | h6
        · exact absurd h6 a
        · exact absurd h6 b
      · exact h6
    · rcases h7 with h7 | h7
      · exact absurd h7 a
      · exact h7
  · rintro ⟨h1, h2, h3, h4, h5, h6, h7⟩
    refine ⟨⟨⟨⟨⟨⟨by omega, by omega⟩, by omega⟩, by omega⟩, by omega⟩, ?_⟩, ?_⟩
    · by_cases a : r.kind = 2
      · exact .inl (.inl a)
      · by_cases b : r.kind = 3
        · exact .inl (.inr b)
        · exact .inr (h6 a b)
    · by_cases a : r.kind = 1
      · exact .inl a
      · exact .inr (h7 a)
theorem printE_ok {r : Rq} (h : okQ r) : printE r = .returned (.tuple #[.string ⟨(encQ r).toArray⟩, .int .i64 0]) := by
  obtain ⟨h1, h2, h3, h4, h5, h6, h7, h8⟩ := h
  have hb := (badA_no r).2 ⟨h1, h2, h3, h4, h5, h6, h7⟩
  unfold printE encQ
  rw [if_neg (by rw [hb]; simp)]
  by_cases k1 : r.kind = 1
  · obtain ⟨a0, a1, a2, a3, a4⟩ := h8 k1
    rw [if_pos k1, if_pos k1, numsF_in _ _ _ _ _ _ a0 a1 a2 a3 a4]
    rfl
  · rw [if_neg k1, if_neg k1]
    by_cases k4 : r.kind = 4
    · rw [if_pos k4, if_neg (by omega)]; rfl
    · rw [if_neg k4, if_pos (by omega), List.append_assoc]; rfl
theorem printE_no {r : Rq} (h : ¬ okQ r) : printE r = .returned (.tuple #[.string { data := #[] }, .int .i64 1]) := by
  unfold printE
  cases hb : badA r with
  | true => rw [if_pos rfl]; rfl
  | false =>
    obtain ⟨h1, h2, h3, h4, h5, h6, h7⟩ := (badA_no r).1 hb
    rw [if_neg (by simp)]
    by_cases k1 : r.kind = 1
    · rw [if_pos k1]
      have : ∃ i, 5 - 5 ≤ i ∧ i < 5 ∧ ¬ inN (qs5 r.q0 r.q1 r.q2 r.q3 r.q4 i) := by
        by_cases a0 : inN r.q0
        · by_cases a1 : inN r.q1
          · by_cases a2 : inN r.q2
            · by_cases a3 : inN r.q3
              · by_cases a4 : inN r.q4
                · exact absurd ⟨h1, h2, h3, h4, h5, h6, h7, fun _ => ⟨a0, a1, a2, a3, a4⟩⟩ h
                · exact ⟨4, by omega, by omega, a4⟩
              · exact ⟨3, by omega, by omega, a3⟩
            · exact ⟨2, by omega, by omega, a2⟩
          · exact ⟨1, by omega, by omega, a1⟩
        · exact ⟨0, by omega, by omega, a0⟩
      unfold doneE
      rw [if_pos (numsF_out _ 5 _ _ (Nat.le_refl _) this)]; rfl
    · exact absurd ⟨h1, h2, h3, h4, h5, h6, h7, fun h => absurd h k1⟩ h
end Go.Proofs.Ytgcjfjmnccajeaa
