/- The lists: of bytes, of ranges. -/
import Derived.Test.YtonicgbejmghkaaDoorBytes
import Derived.OwnWalk
import Derived.Laws.OwnMore
import Derived.Outline
import Derived.Deep.DeepCutAuto
import Derived.Deep.CutBlock
import Derived.Deep.LoopGhost
import Derived.WalkSmall
import Derived.Deep.AppendLies
namespace Go.Proofs.YtonicgbejmghkaaDoor
open Go.RowKit
/-- The first n numbers that have p. -/
def upto (p : Nat → Bool) : Nat → List Nat
  | 0 => []
  | n + 1 => if p n then upto p n ++ [n] else upto p n
theorem upto_len (p : Nat → Bool) : ∀ n, (upto p n).length ≤ n
  | 0 => Nat.le_refl _
  | n + 1 => by
    have := upto_len p n
    unfold upto; split
    · simp; omega
    · omega
def listS (S : Nat → Nat) : List Nat := upto (has S) 256
def ints (l : List Nat) : List Value := l.map fun (n : Nat) => Value.int .i64 n
theorem info_int : (Tryd.prog.info? 3).map (fun i => (i.zero, i.size, i.bytes)) = some (some (.int .i64 0), 1, 8) := by kernel_rfl
/-- The runs among the first n numbers. -/
def setLast : List (Nat × Nat) → Nat → List (Nat × Nat)
  | [], _ => []
  | [(a, _)], n => [(a, n)]
  | x :: y :: l, n => x :: setLast (y :: l) n
def runs (p : Nat → Bool) : Nat → List (Nat × Nat)
  | 0 => []
  | n + 1 => if p n then (if 0 < n ∧ p (n - 1) = true then setLast (runs p n) n else runs p n ++ [(n, n)]) else runs p n
theorem setLast_snoc (a b n : Nat) : ∀ l, setLast (l ++ [(a, b)]) n = l ++ [(a, n)]
  | [] => rfl
  | [x] => rfl
  | x :: y :: l => by
    show x :: setLast (y :: l ++ [(a, b)]) n = _
    rw [setLast_snoc a b n (y :: l)]; rfl
theorem setLast_len (n : Nat) : ∀ l, (setLast l n).length = l.length
  | [] => rfl
  | [(_, _)] => rfl
  | x :: y :: l => by
    show (setLast (y :: l) n).length + 1 = (y :: l).length + 1
    rw [setLast_len n (y :: l)]
theorem runs_len (p : Nat → Bool) : ∀ n, (runs p n).length ≤ n
  | 0 => Nat.le_refl _
  | n + 1 => by
    have := runs_len p n
    unfold runs; (repeat' split)
    · rw [setLast_len]; omega
    · simp; omega
    · omega
/-- Where the last number is there, the last run ends with it. -/
theorem runs_last (p : Nat → Bool) : ∀ n, p n = true → ∃ l a, runs p (n + 1) = l ++ [(a, n)] ∧ a ≤ n
  | 0, h => ⟨[], 0, by show (if p 0 = true then _ else _) = _; rw [if_pos h, if_neg (by intro h; exact Nat.lt_irrefl 0 h.1)]; rfl, Nat.le_refl _⟩
  | n + 1, h => by
    show ∃ l a, (if p (n + 1) = true then _ else _) = _ ∧ _
    rw [if_pos h]
    by_cases g : p n = true
    · obtain ⟨l, a, e, ha⟩ := runs_last p n g
      rw [if_pos ⟨by omega, by simpa using g⟩, e, setLast_snoc]
      exact ⟨l, a, rfl, by omega⟩
    · rw [if_neg (by rintro ⟨_, k⟩; exact g (by simpa using k))]
      exact ⟨_, _, rfl, Nat.le_refl _⟩
def rangesS (S : Nat → Nat) : List (Nat × Nat) := runs (has S) 256
def pairs (l : List (Nat × Nat)) : List Value := l.flatMap fun x => [Value.int .u8 x.1, Value.int .u8 x.2]
theorem pairs_len : ∀ l, (pairs l).length = l.length * 2
  | [] => rfl
  | x :: l => by
    show (pairs l).length + 1 + 1 = _
    rw [pairs_len l]; simp; omega
theorem pairs_snoc (l : List (Nat × Nat)) (a b : Nat) : pairs (l ++ [(a, b)]) = pairs l ++ [.int .u8 a, .int .u8 b] := by simp [pairs]
theorem info_pair : (Tryd.prog.info? 57).map (fun i => (i.zero, i.size, i.bytes)) = some (some (.agg #[.int .u8 0, .int .u8 0]), 2, 2) := by kernel_rfl
/-- A run that begins. -/
theorem runs_begin (p : Nat → Bool) (k : Nat) (h : p k = true) (g : k = 0 ∨ p (k - 1) = false) : runs p (k + 1) = runs p k ++ [(k, k)] := by
  show (if p k = true then _ else _) = _
  rw [if_pos h, if_neg (by rintro ⟨h0, h1⟩; rcases g with g | g; omega; rw [g] at h1; cases h1)]
theorem runs_on (p : Nat → Bool) (k lo : Nat) (L : List (Nat × Nat)) (e : runs p (k + 1) = L ++ [(lo, k)]) (h : p (k + 1) = true) (g : p k = true) : runs p (k + 1 + 1) = L ++ [(lo, k + 1)] := by
  show (if p (k + 1) = true then _ else _) = _
  rw [if_pos h, if_pos ⟨by omega, by simpa using g⟩, e, setLast_snoc]
end Go.Proofs.YtonicgbejmghkaaDoor
