/- The wire's reader. -/
import Derived.Test.YtgcjfjmnccajeaaWirePure
import Derived.Test.YtgcjfjmnccajeaaExt
import Derived.Test.YtgcjfjmnccajeaaTail
import Derived.Handy
import Derived.Test.YtgcjfjmnccajeaaRows
import Derived.Lib.Strings
import Derived.Lib.Walk
namespace Go.Proofs.Ytgcjfjmnccajeaa
open Go.RowKit
def str (l : List UInt8) : Value := .string ⟨l.toArray⟩
theorem mk_size (l : List UInt8) : (ByteArray.mk l.toArray).size = l.length := by show l.toArray.size = _; simp
theorem str_list (l : List UInt8) : ((⟨l.toArray⟩ : ByteArray).toList) = l := by rw [ByteArray.toList_eq]
theorem mk_extract (l : List UInt8) (a b : Nat) : (ByteArray.mk l.toArray).extract a b = ⟨((l.drop a).take (b - a)).toArray⟩ := by
  apply Go.WideShapes.bytes_inj
  rw [Lib.extract_data]
theorem mk_to_end (l : List UInt8) (a n : Nat) (h : l.length ≤ n) : (ByteArray.mk l.toArray).extract a n = ⟨(l.drop a).toArray⟩ := by
  rw [mk_extract, List.take_of_length_le]
  rw [List.length_drop]; omega
/-- A reader in block b, at the head of a struct. -/
def Rd (b : Nat) (t : TypeId) (tl : List Value) (rest : List UInt8) (bad : Bool) (w : World) : Prop := Blk w b t (str rest :: .bool bad :: tl).toArray
theorem Rd.cell0 {b : Nat} {t : TypeId} {tl : List Value} {rest : List UInt8} {bad : Bool} {w : World} (h : Rd b t tl rest bad w) : w.cell? ⟨b, 0, none⟩ = some (str rest) := Blk.cell h 0
theorem Rd.cell1 {b : Nat} {t : TypeId} {tl : List Value} {rest : List UInt8} {bad : Bool} {w : World} (h : Rd b t tl rest bad w) : w.cell? ⟨b, 1, none⟩ = some (.bool bad) := Blk.cell h 1
theorem Rd.set0 {b : Nat} {t : TypeId} {tl : List Value} {rest : List UInt8} {bad : Bool} {w : World} (h : Rd b t tl rest bad w) (r : List UInt8) : Rd b t tl r bad (w.setCell ⟨b, 0, none⟩ (str r)) := Blk.set h 0 (str r)
theorem Rd.set1 {b : Nat} {t : TypeId} {tl : List Value} {rest : List UInt8} {bad : Bool} {w : World} (h : Rd b t tl rest bad w) (x : Bool) : Rd b t tl rest x (w.setCell ⟨b, 1, none⟩ (.bool x)) := Blk.set h 1 (.bool x)
theorem Rd.free {b : Nat} {t : TypeId} {tl : List Value} {rest : List UInt8} {bad : Bool} {w : World} (h : Rd b t tl rest bad w) (i : Nat) : w.frozen? ⟨b, i, none⟩ = false := Lib.frozen_of_heap h i
/-- What one answers, and leaves. -/
def oneB : List UInt8 → Bool → Nat × List UInt8 × Bool
  | [], _ => (0, [], true)
  | c :: r, bad => (c.toNat, r, bad)
set_option maxHeartbeats 1000000 in
theorem one_c (b : Nat) (t : TypeId) (tl : List Value) (rest : List UInt8) (hl : rest.length ≤ 1000000) (bad : Bool) (w : World) (h : Rd b t tl rest bad w) : Calls Try.prog 27 #[.pointer (some ⟨b, 0, none⟩)] w fun e w' =>
    e = .returned (.int .u8 (oneB rest bad).1) ∧ Rd b t tl (oneB rest bad).2.1 (oneB rest bad).2.2 w' ∧ Only [b] w w' := by
  have c0 := h.cell0
  have f0 := h.free 0
  have f1 := h.free 1
  have H := Lib.hid h
  unfold str at c0
  cases rest with
  | nil =>
    have h2 : (⟨([] : List UInt8).toArray⟩ : ByteArray).toList = [] := str_list _
    have c1 := h.cell1
    clear h
    generalize (⟨([] : List UInt8).toArray⟩ : ByteArray) = s at c0 h2
    go_enter Try.func27, Try.ntmps27
    go_wp2_with fail
    go_returns
    exact ⟨rfl, H.out.set1 true, (Only.refl _ _).set (by simp) _⟩
  | cons c r =>
    have h1 : (⟨(c :: r).toArray⟩ : ByteArray).toList.isEmpty = false := by rw [str_list]; rfl
    have hs : 0 < (⟨(c :: r).toArray⟩ : ByteArray).size := by rw [mk_size]; simp
    have e0 : ((⟨(c :: r).toArray⟩ : ByteArray)[0]'hs).toNat = c.toNat := rfl
    have E1 := Lib.hid (show (⟨(c :: r).toArray⟩ : ByteArray).extract 1 (⟨(c :: r).toArray⟩ : ByteArray).size = ⟨r.toArray⟩ from mk_to_end (c :: r) 1 _ (by rw [mk_size]; exact Nat.le_refl _))
    have hm : (⟨(c :: r).toArray⟩ : ByteArray).size ≤ 1000000 := by rw [mk_size]; exact hl
    clear h
    generalize (⟨(c :: r).toArray⟩ : ByteArray) = s at *
    have t1 : (1 : Int) ≤ (s.size : Nat) := by omega
    go_enter Try.func27, Try.ntmps27
    go_wp2_with fail
    go_returns
    rw [E1.out]
    exact ⟨rfl, H.out.set0 r, (Only.refl _ _).set (by simp) _⟩
end Go.Proofs.Ytgcjfjmnccajeaa
