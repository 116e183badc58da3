/- The wire's requests and responses as bytes, with no program in sight. -/
import Derived.Test.YtgcjfjmnccajeaaWirePure
namespace Go.Proofs.Ytgcjfjmnccajeaa
open Go.RowKit
/-- A request: kind, tenant, five numbers, a text. -/
structure Rq where
  kind : Int
  tenant : Int
  q0 : Int
  q1 : Int
  q2 : Int
  q3 : Int
  q4 : Int
  text : List UInt8
theorem Rq.eq {a b : Rq} (h0 : a.kind = b.kind) (h1 : a.tenant = b.tenant) (h2 : a.q0 = b.q0) (h3 : a.q1 = b.q1) (h4 : a.q2 = b.q2) (h5 : a.q3 = b.q3) (h6 : a.q4 = b.q4) (h7 : a.text = b.text) : a = b := by
  cases a; cases b; simp_all
/-- So many numbers. -/
def readNs (limit : Nat) : Nat → List UInt8 → Option (List Nat × List UInt8)
  | 0, s => some ([], s)
  | k + 1, s =>
    match readN limit s with
    | none => none
    | some (n, r) =>
      match readNs limit k r with
      | none => none
      | some (l, r2) => some (n :: l, r2)
def encNs : List Nat → List UInt8
  | [] => []
  | n :: l => encN n ++ encNs l
theorem readNs_len (limit : Nat) : ∀ (k : Nat) (s : List UInt8) (l : List Nat) (r : List UInt8), readNs limit k s = some (l, r) → l.length = k
  | 0, s, l, r, h => by injection h with h; injection h with e _; rw [← e]; rfl
  | k + 1, s, l, r, h => by
    unfold readNs at h
    cases h1 : readN limit s with
    | none => rw [h1] at h; cases h
    | some p =>
      obtain ⟨n, r1⟩ := p
      rw [h1] at h
      simp only at h
      cases h2 : readNs limit k r1 with
      | none => rw [h2] at h; cases h
      | some p2 =>
        obtain ⟨l2, r2⟩ := p2
        rw [h2] at h
        injection h with h
        injection h with e1 e2
        rw [← e1, List.length_cons, readNs_len limit k r1 l2 r2 h2]
theorem readNs_enc (limit : Nat) (hl : limit ≤ most) : ∀ (l : List Nat) (t : List UInt8), (∀ n ∈ l, n ≤ limit) → readNs limit l.length (encNs l ++ t) = some (l, t)
  | [], t, _ => rfl
  | n :: l, t, h => by
    have h0 := h n (by simp)
    show (match readN limit ((encN n ++ encNs l) ++ t) with | none => none | some (n, r) => match readNs limit l.length r with | none => none | some (l, r2) => some (n :: l, r2)) = _
    rw [List.append_assoc, readN_enc _ (by omega) h0]
    simp only
    rw [readNs_enc limit hl l t (fun m hm => h m (by simp [hm]))]
theorem readNs_at (limit : Nat) (hl : limit ≤ most) {k : Nat} (l : List Nat) (hk : l.length = k) (t : List UInt8) (h : ∀ n ∈ l, n ≤ limit) : readNs limit k (encNs l ++ t) = some (l, t) := by
  subst hk; exact readNs_enc limit hl l t h
theorem readNs_take (limit : Nat) (hl : limit ≤ most) : ∀ (k : Nat) (s : List UInt8) (l : List Nat) (r : List UInt8), readNs limit k s = some (l, r) → s = encNs l ++ r ∧ ∀ n ∈ l, n ≤ limit
  | 0, s, l, r, h => by
    injection h with h
    injection h with e1 e2
    subst e1 e2
    exact ⟨rfl, fun n hn => by cases hn⟩
  | k + 1, s, l, r, h => by
    unfold readNs at h
    cases h1 : readN limit s with
    | none => rw [h1] at h; cases h
    | some p =>
      obtain ⟨n, r1⟩ := p
      rw [h1] at h
      simp only at h
      cases h2 : readNs limit k r1 with
      | none => rw [h2] at h; cases h
      | some p2 =>
        obtain ⟨l2, r2⟩ := p2
        rw [h2] at h
        injection h with h
        injection h with e1 e2
        subst e1 e2
        obtain ⟨g1, g2⟩ := readN_take h1 hl
        obtain ⟨g3, g4⟩ := readNs_take limit hl k r1 l2 r2 h2
        refine ⟨by rw [g1, g3]; show _ = (encN n ++ encNs l2) ++ r2; rw [List.append_assoc], fun m hm => ?_⟩
        rcases List.mem_cons.1 hm with rfl | hm
        · exact g2
        · exact g4 m hm
/-- The request that bytes begin with. -/
def readQ : List UInt8 → Option (Rq × List UInt8)
  | k :: t :: r =>
    if k.toNat = 1 then
      match readNs most 5 r with
      | some ([a, b, c, d, e], r2) => some (⟨1, t.toNat, a, b, c, d, e, []⟩, r2)
      | _ => none
    else if k.toNat = 2 ∨ k.toNat = 3 then
      match readN 4000 r with
      | some (n, r2) => if n ≤ r2.length then some (⟨k.toNat, t.toNat, 0, 0, 0, 0, 0, r2.take n⟩, r2.drop n) else none
      | none => none
    else if k.toNat = 4 then some (⟨4, t.toNat, 0, 0, 0, 0, 0, []⟩, r)
    else none
  | _ => none
def inN (n : Int) : Prop := 0 ≤ n ∧ n ≤ most
/-- May a request be printed? -/
def okQ (r : Rq) : Prop :=
  1 ≤ r.kind ∧ r.kind ≤ 4 ∧ 0 ≤ r.tenant ∧ r.tenant ≤ 255 ∧ r.text.length ≤ 4000 ∧ (r.kind ≠ 2 → r.kind ≠ 3 → r.text = []) ∧
  (r.kind ≠ 1 → r.q0 = 0 ∧ r.q1 = 0 ∧ r.q2 = 0 ∧ r.q3 = 0 ∧ r.q4 = 0) ∧ (r.kind = 1 → inN r.q0 ∧ inN r.q1 ∧ inN r.q2 ∧ inN r.q3 ∧ inN r.q4)
/-- Its bytes. -/
def encQ (r : Rq) : List UInt8 :=
  r.kind.toNat.toUInt8 :: r.tenant.toNat.toUInt8 ::
    (if r.kind = 1 then encNs [r.q0.toNat, r.q1.toNat, r.q2.toNat, r.q3.toNat, r.q4.toNat] else if r.kind = 2 ∨ r.kind = 3 then encN r.text.length ++ r.text else [])
theorem readQ_enc (r : Rq) (h : okQ r) (more : List UInt8) : readQ (encQ r ++ more) = some (r, more) := by
  obtain ⟨k, t, q0, q1, q2, q3, q4, tx⟩ := r
  obtain ⟨h1, h2, h3, h4, h5, h6, h7, h8⟩ := h
  simp only at h1 h2 h3 h4 h5 h6 h7 h8
  unfold encQ
  have ek : (k.toNat.toUInt8).toNat = k.toNat := u8_toNat (by omega)
  have et : (t.toNat.toUInt8).toNat = t.toNat := u8_toNat (by omega)
  simp only [List.cons_append]
  unfold readQ
  simp only [ek, et]
  by_cases g1 : k = 1
  · subst g1
    obtain ⟨a0, a1, a2, a3, a4⟩ := h8 rfl
    have ht := h6 (by decide) (by decide)
    unfold inN at a0 a1 a2 a3 a4
    rw [if_pos (by rfl), if_pos rfl, readNs_at (k := 5) most (Nat.le_refl _) [q0.toNat, q1.toNat, q2.toNat, q3.toNat, q4.toNat] rfl more (by intro n hn; simp only [List.mem_cons, List.not_mem_nil, or_false] at hn; omega)]
    simp only [Option.some.injEq, Prod.mk.injEq, and_true]
    exact Rq.eq rfl (Int.toNat_of_nonneg h3) (Int.toNat_of_nonneg a0.1) (Int.toNat_of_nonneg a1.1) (Int.toNat_of_nonneg a2.1) (Int.toNat_of_nonneg a3.1) (Int.toNat_of_nonneg a4.1) ht.symm
  · obtain ⟨b0, b1, b2, b3, b4⟩ := h7 g1
    subst b0 b1 b2 b3 b4
    rw [if_neg (by omega), if_neg g1]
    by_cases g2 : k = 2 ∨ k = 3
    · rw [if_pos (by omega), if_pos g2, List.append_assoc, readN_enc _ (by unfold most; omega) h5]
      simp only
      rw [if_pos (by simp), List.take_left, List.drop_left]
      simp only [Option.some.injEq, Prod.mk.injEq, and_true]
      exact Rq.eq (Int.toNat_of_nonneg (by omega)) (Int.toNat_of_nonneg h3) rfl rfl rfl rfl rfl rfl
    · have g3 : k = 4 := by omega
      subst g3
      rw [if_neg (by omega), if_neg g2, if_pos (by rfl), h6 (by decide) (by decide)]
      simp only [List.nil_append, Option.some.injEq, Prod.mk.injEq, and_true]
      exact Rq.eq rfl (Int.toNat_of_nonneg h3) rfl rfl rfl rfl rfl rfl
theorem u8_back (c : UInt8) : ((c.toNat : Int).toNat).toUInt8 = c := by
  rw [Int.toNat_natCast]; exact UInt8.toNat_inj.1 (u8_toNat (UInt8.toNat_lt c))
theorem u8_back2 (c : UInt8) : c.toNat.toUInt8 = c := UInt8.toNat_inj.1 (u8_toNat (UInt8.toNat_lt c))
theorem readQ_take {s : List UInt8} {r : Rq} {rest : List UInt8} (h : readQ s = some (r, rest)) : okQ r ∧ s = encQ r ++ rest := by
  match s, h with
  | [], h => cases h
  | [_], h => cases h
  | k :: t :: b, h =>
    have hk := UInt8.toNat_lt k
    have ht := UInt8.toNat_lt t
    simp only [readQ] at h
    by_cases g1 : k.toNat = 1
    · rw [if_pos g1] at h
      cases h1 : readNs most 5 b with
      | none => rw [h1] at h; cases h
      | some p =>
        obtain ⟨l, r2⟩ := p
        have hlen := readNs_len most 5 b l r2 h1
        obtain ⟨hs, hb⟩ := readNs_take most (Nat.le_refl _) 5 b l r2 h1
        match l, hlen with
        | [a0, a1, a2, a3, a4], _ =>
          rw [h1] at h
          simp only [Option.some.injEq, Prod.mk.injEq] at h
          obtain ⟨e1, e2⟩ := h
          subst e1 e2
          refine ⟨⟨Int.le_refl 1, (by decide : (1 : Int) ≤ 4), by simp only; omega, by simp only; omega, by simp, fun _ _ => rfl, fun h => absurd rfl h, fun _ => ?_⟩, ?_⟩
          · simp only [inN]
            have := hb a0 (by simp); have := hb a1 (by simp); have := hb a2 (by simp); have := hb a3 (by simp); have := hb a4 (by simp)
            omega
          · unfold encQ
            simp only [if_pos, List.cons_append, u8_back2, Int.toNat_natCast]
            have e : k = ((1 : Int).toNat).toUInt8 := UInt8.toNat_inj.1 (by rw [g1]; rfl)
            rw [← e, ← hs]
    · rw [if_neg g1] at h
      by_cases g2 : k.toNat = 2 ∨ k.toNat = 3
      · rw [if_pos g2] at h
        cases h1 : readN 4000 b with
        | none => rw [h1] at h; cases h
        | some p =>
          obtain ⟨n, r2⟩ := p
          obtain ⟨hs, hb⟩ := readN_take h1 (by decide)
          rw [h1] at h
          simp only at h
          by_cases g3 : n ≤ r2.length
          · rw [if_pos g3] at h
            simp only [Option.some.injEq, Prod.mk.injEq] at h
            obtain ⟨e1, e2⟩ := h
            subst e1 e2
            have hl : (r2.take n).length = n := by simp [g3]
            refine ⟨⟨by simp only; omega, by simp only; omega, by simp only; omega, by simp only; omega, by simp only [hl]; omega, fun h3 h4 => absurd g2 (by simp only at h3 h4; omega), fun _ => ⟨rfl, rfl, rfl, rfl, rfl⟩, fun h3 => absurd h3 (by simp only; omega)⟩, ?_⟩
            unfold encQ
            simp only [List.cons_append, u8_back, hl]
            rw [if_neg (by omega), if_pos (by omega), List.append_assoc, List.take_append_drop, ← hs]
          · rw [if_neg g3] at h; cases h
      · rw [if_neg g2] at h
        by_cases g3 : k.toNat = 4
        · rw [if_pos g3] at h
          simp only [Option.some.injEq, Prod.mk.injEq] at h
          obtain ⟨e1, e2⟩ := h
          subst e1 e2
          refine ⟨⟨(by decide : (1 : Int) ≤ 4), Int.le_refl 4, by simp only; omega, by simp only; omega, by simp, fun _ _ => rfl, fun _ => ⟨rfl, rfl, rfl, rfl, rfl⟩, fun h3 => absurd h3 (by decide : ¬ (4 : Int) = 1)⟩, ?_⟩
          unfold encQ
          simp only [List.cons_append, u8_back]
          have e : k = ((4 : Int).toNat).toUInt8 := UInt8.toNat_inj.1 (by rw [g3]; rfl)
          rw [← e]; rfl
        · rw [if_neg g3] at h; cases h
/-- A response: an error, a place, tokens. -/
structure Rp where
  err : Int
  at_ : Int
  toks : List (Int × Int × Int)
theorem Rp.eq {a b : Rp} (h0 : a.err = b.err) (h1 : a.at_ = b.at_) (h2 : a.toks = b.toks) : a = b := by cases a; cases b; simp_all
def readT (s : List UInt8) : Option ((Int × Int × Int) × List UInt8) :=
  match readNs most 3 s with
  | some ([a, b, c], r) => if a ≤ 255 ∧ b + c ≤ most then some ((a, b, (b : Int) + c), r) else none
  | _ => none
def readTs : Nat → List UInt8 → Option (List (Int × Int × Int) × List UInt8)
  | 0, s => some ([], s)
  | k + 1, s =>
    match readT s with
    | none => none
    | some (t, r) =>
      match readTs k r with
      | none => none
      | some (l, r2) => some (t :: l, r2)
def readR : List UInt8 → Option (Rp × List UInt8)
  | [] => none
  | c :: s =>
    if 13 < c.toNat then none
    else match readNs most 2 s with
      | some ([a, n], r) => if 4000 < n then none else match readTs n r with | none => none | some (l, r2) => some (⟨c.toNat, a, l⟩, r2)
      | _ => none
def okT (t : Int × Int × Int) : Prop := 0 ≤ t.1 ∧ t.1 ≤ 255 ∧ inN t.2.1 ∧ inN t.2.2 ∧ t.2.1 ≤ t.2.2
def encT (t : Int × Int × Int) : List UInt8 := encNs [t.1.toNat, t.2.1.toNat, (t.2.2 - t.2.1).toNat]
def encTs : List (Int × Int × Int) → List UInt8
  | [] => []
  | t :: l => encT t ++ encTs l
def okR (r : Rp) : Prop := 0 ≤ r.err ∧ r.err ≤ 13 ∧ inN r.at_ ∧ r.toks.length ≤ 4000 ∧ ∀ t ∈ r.toks, okT t
def encR (r : Rp) : List UInt8 := r.err.toNat.toUInt8 :: (encNs [r.at_.toNat, r.toks.length] ++ encTs r.toks)
theorem readT_enc (t : Int × Int × Int) (h : okT t) (more : List UInt8) : readT (encT t ++ more) = some (t, more) := by
  obtain ⟨a, b, c⟩ := t
  obtain ⟨h1, h2, h3, h4, h5⟩ := h
  unfold inN at h3 h4
  simp only at h1 h2 h3 h4 h5
  unfold readT encT
  rw [readNs_at (k := 3) most (Nat.le_refl _) [a.toNat, b.toNat, (c - b).toNat] rfl more (by intro n hn; simp only [List.mem_cons, List.not_mem_nil, or_false] at hn; unfold most at *; omega)]
  simp only
  rw [if_pos (by omega)]
  simp only [Option.some.injEq, Prod.mk.injEq, and_true]
  omega
theorem readTs_enc : ∀ (l : List (Int × Int × Int)) (more : List UInt8), (∀ t ∈ l, okT t) → readTs l.length (encTs l ++ more) = some (l, more)
  | [], more, _ => rfl
  | t :: l, more, h => by
    show (match readT ((encT t ++ encTs l) ++ more) with | none => none | some (t, r) => match readTs l.length r with | none => none | some (l, r2) => some (t :: l, r2)) = _
    rw [List.append_assoc, readT_enc t (h t (by simp))]
    simp only
    rw [readTs_enc l more (fun m hm => h m (by simp [hm]))]
theorem readR_enc (r : Rp) (h : okR r) (more : List UInt8) : readR (encR r ++ more) = some (r, more) := by
  obtain ⟨e, a, l⟩ := r
  obtain ⟨h1, h2, h3, h4, h5⟩ := h
  unfold inN at h3
  simp only at h1 h2 h3 h4 h5
  have ek : (e.toNat.toUInt8).toNat = e.toNat := u8_toNat (by omega)
  unfold encR
  simp only [List.cons_append]
  unfold readR
  simp only [ek]
  rw [if_neg (by omega), List.append_assoc, readNs_at (k := 2) most (Nat.le_refl _) [a.toNat, l.length] rfl _ (by intro n hn; simp only [List.mem_cons, List.not_mem_nil, or_false] at hn; unfold most at *; omega)]
  simp only
  rw [if_neg (by omega), readTs_enc l more h5]
  simp only [Option.some.injEq, Prod.mk.injEq, and_true]
  exact Rp.eq (Int.toNat_of_nonneg h1) (Int.toNat_of_nonneg h3.1) rfl
theorem readT_take {s : List UInt8} {t : Int × Int × Int} {r : List UInt8} (h : readT s = some (t, r)) : okT t ∧ s = encT t ++ r := by
  unfold readT at h
  cases h1 : readNs most 3 s with
  | none => rw [h1] at h; cases h
  | some p =>
    obtain ⟨l, r2⟩ := p
    have hlen := readNs_len most 3 s l r2 h1
    obtain ⟨hs, hb⟩ := readNs_take most (Nat.le_refl _) 3 s l r2 h1
    match l, hlen with
    | [a, b, c], _ =>
      rw [h1] at h
      simp only at h
      by_cases g : a ≤ 255 ∧ b + c ≤ most
      · rw [if_pos g] at h
        simp only [Option.some.injEq, Prod.mk.injEq] at h
        obtain ⟨e1, e2⟩ := h
        subst e1 e2
        refine ⟨⟨by simp only; omega, by simp only; omega, ⟨by simp only; omega, by simp only; omega⟩, ⟨by simp only; omega, by simp only; omega⟩, by simp only; omega⟩, ?_⟩
        unfold encT
        simp only [Int.toNat_natCast]
        rw [show ((b : Int) + c - b).toNat = c from by omega]
        exact hs
      · rw [if_neg g] at h; cases h
theorem readTs_take : ∀ (k : Nat) (s : List UInt8) (l : List (Int × Int × Int)) (r : List UInt8), readTs k s = some (l, r) → l.length = k ∧ (∀ t ∈ l, okT t) ∧ s = encTs l ++ r
  | 0, s, l, r, h => by
    injection h with h
    injection h with e1 e2
    subst e1 e2
    exact ⟨rfl, (fun n hn => by cases hn), rfl⟩
  | k + 1, s, l, r, h => by
    unfold readTs at h
    cases h1 : readT s with
    | none => rw [h1] at h; cases h
    | some p =>
      obtain ⟨t, r1⟩ := p
      rw [h1] at h
      simp only at h
      cases h2 : readTs k r1 with
      | none => rw [h2] at h; cases h
      | some p2 =>
        obtain ⟨l2, r2⟩ := p2
        rw [h2] at h
        simp only [Option.some.injEq, Prod.mk.injEq] at h
        obtain ⟨e1, e2⟩ := h
        subst e1 e2
        obtain ⟨g1, g2⟩ := readT_take h1
        obtain ⟨g3, g4, g5⟩ := readTs_take k r1 l2 r2 h2
        refine ⟨by simp [g3], fun m hm => ?_, by rw [g2, g5]; show _ = (encT t ++ encTs l2) ++ r2; rw [List.append_assoc]⟩
        rcases List.mem_cons.1 hm with rfl | hm
        · exact g1
        · exact g4 m hm
theorem readR_take {s : List UInt8} {r : Rp} {rest : List UInt8} (h : readR s = some (r, rest)) : okR r ∧ s = encR r ++ rest := by
  match s, h with
  | [], h => cases h
  | c :: b, h =>
    have hk := UInt8.toNat_lt c
    simp only [readR] at h
    by_cases g1 : 13 < c.toNat
    · rw [if_pos g1] at h; cases h
    · rw [if_neg g1] at h
      cases h1 : readNs most 2 b with
      | none => rw [h1] at h; cases h
      | some p =>
        obtain ⟨l, r2⟩ := p
        have hlen := readNs_len most 2 b l r2 h1
        obtain ⟨hs, hb⟩ := readNs_take most (Nat.le_refl _) 2 b l r2 h1
        match l, hlen with
        | [a, n], _ =>
          rw [h1] at h
          simp only at h
          by_cases g2 : 4000 < n
          · rw [if_pos g2] at h; cases h
          · rw [if_neg g2] at h
            cases h2 : readTs n r2 with
            | none => rw [h2] at h; cases h
            | some p2 =>
              obtain ⟨l2, r3⟩ := p2
              rw [h2] at h
              simp only [Option.some.injEq, Prod.mk.injEq] at h
              obtain ⟨e1, e2⟩ := h
              subst e1 e2
              obtain ⟨g3, g4, g5⟩ := readTs_take n r2 l2 r3 h2
              have := hb a (by simp)
              refine ⟨⟨by simp only; omega, by simp only; omega, ⟨by simp only; omega, by simp only; omega⟩, by simp only; omega, g4⟩, ?_⟩
              unfold encR
              simp only [List.cons_append, u8_back2, Int.toNat_natCast, List.append_assoc, g3, ← g5, ← hs]
/-- What is cut off is none. -/
theorem readQ_cut {r : Rq} (h : okQ r) {u v : List UInt8} (e : encQ r = u ++ v) (hv : v ≠ []) : readQ u = none := by
  cases hu : readQ u with
  | none => rfl
  | some p =>
    obtain ⟨q, rest⟩ := p
    obtain ⟨g1, g2⟩ := readQ_take hu
    have a := readQ_enc r h []
    rw [List.append_nil, e, g2, List.append_assoc, readQ_enc q g1] at a
    simp only [Option.some.injEq, Prod.mk.injEq, List.append_eq_nil_iff] at a
    exact absurd a.2.2 hv
theorem readR_cut {r : Rp} (h : okR r) {u v : List UInt8} (e : encR r = u ++ v) (hv : v ≠ []) : readR u = none := by
  cases hu : readR u with
  | none => rfl
  | some p =>
    obtain ⟨q, rest⟩ := p
    obtain ⟨g1, g2⟩ := readR_take hu
    have a := readR_enc r h []
    rw [List.append_nil, e, g2, List.append_assoc, readR_enc q g1] at a
    simp only [Option.some.injEq, Prod.mk.injEq, List.append_eq_nil_iff] at a
    exact absurd a.2.2 hv
/-- Neither is another one's beginning. -/
theorem encQ_pre {a b : Rq} (ha : okQ a) (hb : okQ b) {v : List UInt8} (e : encQ a = encQ b ++ v) : a = b := by
  have h1 := readQ_enc a ha []
  rw [List.append_nil, e, readQ_enc b hb] at h1
  simp only [Option.some.injEq, Prod.mk.injEq] at h1
  exact h1.1.symm
theorem encQ_take {a b : Rq} (ha : okQ a) (hb : okQ b) (k : Nat) (hk : k = min (encQ a).length (encQ b).length) : ((encQ a).take k = (encQ b).take k) ↔ a = b := by
  constructor
  · intro h
    rcases Nat.le_total (encQ a).length (encQ b).length with g | g
    · rw [Nat.min_eq_left g] at hk
      subst hk
      rw [List.take_length] at h
      refine (encQ_pre hb ha (v := (encQ b).drop (encQ a).length) ?_).symm
      have := List.take_append_drop (encQ a).length (encQ b)
      rw [← h] at this
      exact this.symm
    · rw [Nat.min_eq_right g] at hk
      subst hk
      rw [List.take_length] at h
      refine encQ_pre ha hb (v := (encQ a).drop (encQ b).length) ?_
      have := List.take_append_drop (encQ b).length (encQ a)
      rw [h] at this
      exact this.symm
  · intro h; rw [h]
end Go.Proofs.Ytgcjfjmnccajeaa
