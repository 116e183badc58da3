/- Unlike sets have unlike texts: plain Lean. -/
import Derived.Test.YtgcbcmgadllhlaaDoorText
namespace Go.Proofs.YtgcbcmgadllhlaaDoor
def hexV (c : UInt8) : Nat := if c.toNat < 58 then c.toNat - 48 else c.toNat - 87
/-- One byte's text at the head, taken off. -/
def unEsc : List UInt8 → Option (Nat × List UInt8)
  | [] => none
  | c :: r => if c = 92 then (match r with | _ :: h :: l :: r' => some (hexV h * 16 + hexV l, r') | _ => none) else some (c.toNat, r)
theorem plain_not : ∀ b, b < 256 → plainB b = true → b.toUInt8 ≠ 92 ∧ b.toUInt8.toNat = b := by decide +kernel
theorem hex_val : ∀ b, b < 256 → hexV (hexS.getD (b / 16) 0) * 16 + hexV (hexS.getD (b % 16) 0) = b := by decide +kernel
theorem unEsc_esc (b : Nat) (hb : b < 256) (r : List UInt8) : unEsc (escB b ++ r) = some (b, r) := by
  unfold escB
  by_cases h : plainB b = true
  · rw [if_pos h]
    obtain ⟨h1, h2⟩ := plain_not b hb h
    show (if b.toUInt8 = 92 then _ else some (b.toUInt8.toNat, r)) = _
    rw [if_neg h1, h2]
  · rw [if_neg h]
    have e : ∀ (x h l : UInt8) (r : List UInt8), unEsc (92 :: x :: h :: l :: r) = some (hexV h * 16 + hexV l, r) := fun _ _ _ _ => by simp [unEsc]
    rw [List.cons_append, List.cons_append, List.cons_append, List.cons_append, List.nil_append, e, hex_val b hb]
/-- No byte's text begins with a sign of its own. -/
def ownSign (c : UInt8) : Bool := c == 45 || c == 91 || c == 93 || c == 94 || c == 46
theorem esc_head : ∀ b, b < 256 → (match escB b with | c :: _ => !ownSign c | [] => false) = true := by decide +kernel
theorem esc_cons (b : Nat) (hb : b < 256) : ∃ c l, escB b = c :: l ∧ ownSign c = false := by
  have h := esc_head b hb
  cases he : escB b with
  | nil => rw [he] at h; cases h
  | cons c l => rw [he] at h; exact ⟨c, l, rfl, by simpa using h⟩
/-- The numbers from a to b. -/
def span (a n : Nat) : List Nat := (List.range n).map (a + ·)
/-- The bytes of a class's inside; p: the last one so far. -/
def decode : Nat → Nat → List UInt8 → List Nat
  | 0, _, _ => []
  | n + 1, p, l => match l with
    | [] => []
    | c :: r => if c = 45 then (match unEsc r with | some (b, r') => span (p + 1) (b - p) ++ decode n b r' | none => []) else (match unEsc (c :: r) with | some (b, r') => b :: decode n b r' | none => [])
theorem decode_esc (n p b : Nat) (hb : b < 256) (r : List UInt8) : decode (n + 1) p (escB b ++ r) = b :: decode n b r := by
  obtain ⟨c, l, h1, h2⟩ := esc_cons b hb
  have hu := unEsc_esc b hb r
  rw [h1, List.cons_append] at hu ⊢
  have hc : c ≠ 45 := by intro e; rw [e] at h2; cases h2
  show (if c = 45 then _ else _) = _
  rw [if_neg hc, hu]
theorem decode_to (n p b : Nat) (hb : b < 256) (r : List UInt8) : decode (n + 1) p (45 :: (escB b ++ r)) = span (p + 1) (b - p) ++ decode n b r := by
  have e : ∀ l, decode (n + 1) p (45 :: l) = (match unEsc l with | some (b, r') => span (p + 1) (b - p) ++ decode n b r' | none => []) := fun _ => by simp [decode]
  rw [e, unEsc_esc b hb r]
def bytesOf (l : List (Nat × Nat)) : List Nat := l.flatMap fun x => span x.1 (x.2 + 1 - x.1)
theorem span_one (a : Nat) : span a 1 = [a] := by simp [span]
theorem span_succ (a n : Nat) : span a (n + 1) = a :: span (a + 1) n := by
  unfold span
  rw [List.range_succ_eq_map, List.map_cons, List.map_map]
  congr 1
  apply List.map_congr_left
  intro x _
  show a + (x + 1) = a + 1 + x
  omega
theorem decode_ranges : ∀ (l : List (Nat × Nat)) (n p : Nat), (∀ x ∈ l, x.1 ≤ x.2 ∧ x.2 < 256) → 2 * l.length ≤ n → decode n p (rangesB l) = bytesOf l
  | [], n, p, _, _ => by cases n <;> rfl
  | x :: l, n, p, h, hn => by
    obtain ⟨h1, h2⟩ := h x (List.mem_cons_self ..)
    have hl := fun y hy => h y (List.mem_cons_of_mem _ hy)
    obtain ⟨n, rfl⟩ : ∃ m, n = m + 2 := ⟨n - 2, by simp at hn; omega⟩
    have hn' : 2 * l.length ≤ n := by simp at hn; omega
    have e : rangesB (x :: l) = rangeB x ++ rangesB l := by unfold rangesB; rw [List.flatMap_cons]
    have e2 : bytesOf (x :: l) = span x.1 (x.2 + 1 - x.1) ++ bytesOf l := by unfold bytesOf; rw [List.flatMap_cons]
    rw [e, e2]
    unfold rangeB
    by_cases q0 : x.2 = x.1
    · rw [if_pos q0, List.append_nil, decode_esc _ _ _ (by omega), decode_ranges l (n + 1) _ hl (by omega), q0, show x.1 + 1 - x.1 = 1 from by omega, span_one]; rfl
    · by_cases q1 : x.2 = x.1 + 1
      · rw [if_neg q0, if_pos q1, List.append_assoc, decode_esc _ _ _ (by omega), decode_esc _ _ _ h2, decode_ranges l n _ hl hn', q1, show x.1 + 1 + 1 - x.1 = 1 + 1 from by omega, span_succ, span_one]; rfl
      · rw [if_neg q0, if_neg q1, List.append_assoc, List.cons_append, decode_esc _ _ _ (by omega), decode_to _ _ _ h2, decode_ranges l n _ hl hn', show x.2 + 1 - x.1 = (x.2 - x.1) + 1 from by omega, span_succ]; rfl
end Go.Proofs.YtgcbcmgadllhlaaDoor
