/- One number appended. -/
import Derived.Test.YtafcnehinanecaaTabEq
import Derived.Test.YtafcnehinanecaaTabPure
import Derived.Test.YtafcnehinanecaaSparse2
import Derived.Laws.AppendOwnNone
namespace Go.Proofs.Ytafcnehinanecaa
open Go.RowKit
theorem wpList_push {ops : Array Oper} {rest : List Oper} {o : Oper} {a : Act} {Q : Exit → Act → World → Prop} {w : World} (hgd : o.guard = none) (s x : Operand)
    (ho : o.op = .call { callee := .builtin .append, args := #[s, x], argTypes := #[24, 24] }) (B : Nat) (l : List Int) (k : Int) (v : Value)
    (hs : a.eval s = v) (hown : w.ownsRow B 3 1 v l.length (ints l)) (hx : a.eval x = .slice (some ⟨w.heap.size, 0, none⟩) 1 1) (hl : l.length ≤ 1000000) (hB : B ≤ w.heap.size)
    (h : ∀ v' w', w'.ownsRow B 3 1 v' (l ++ [k]).length (ints (l ++ [k])) → (w.alloc (.cells #[.int .i64 k] 3)).grownBy w' v.ownBlock → Below B w w' → wpList Try.prog ops Q rest (a.put o.dst v') w') : wpList Try.prog ops Q (o :: rest) a (w.alloc (.cells #[.int .i64 k] 3)) := by
  obtain ⟨i0, hi, hz0, hz1, hz2⟩ := info_parts info_int
  refine wpList_append_own _ hgd s x 24 ho B 3 i0 (.int .i64 0) 1 8 Try.underlying24 hi hz0 hz1 hz2 rfl (by decide) v l.length (ints l) hs (hown.alloc _) ⟨w.heap.size, 0, none⟩ 1 1 [.int .i64 k] hx rfl ?c1 ?c2 ?c3 ?c4 ?c5 ?_
  case c1 =>
    intro i u hu
    have := (Blk.made w 3 #[.int .i64 k]).cell i
    rw [show (⟨w.heap.size, 0, none⟩ : Addr).add i = ⟨w.heap.size, i, none⟩ from by rw [Addr.add_mid]; simp]
    rw [this]; simpa using hu
  case c2 => intro u hu; rw [List.mem_singleton] at hu; subst hu; rfl
  case c3 => unfold maxLen; omega
  case c4 => omega
  case c5 => first | omega | (rw [World.size_alloc]; omega)
  intro v' w' hown' hgrow _
  refine h v' w' ?_ hgrow (Below.ofGrown ((below_alloc (Below.refl _ w) _).mono hB) (hown.alloc _) hgrow (by omega) (by rw [World.size_alloc]; omega))
  rw [List.length_append, ints_app]; exact hown'
end Go.Proofs.Ytafcnehinanecaa
