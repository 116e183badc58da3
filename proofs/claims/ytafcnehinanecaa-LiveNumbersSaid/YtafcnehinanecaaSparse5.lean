/- The document's sorted list is the program's. -/
import Derived.Test.YtafcnehinanecaaSparse4
namespace Go.Proofs.Ytafcnehinanecaa
open Go.RowKit
/-- The first n numbers that have p. -/
def upto (p : Nat → Bool) : Nat → List Nat
  | 0 => []
  | n + 1 => if p n then upto p n ++ [n] else upto p n
theorem upto_len (p : Nat → Bool) : ∀ n, (upto p n).length ≤ n
  | 0 => Nat.le_refl _
  | n + 1 => by
    have := upto_len p n
    unfold upto; split
    · simp; omega
    · omega
theorem upto_mem (p : Nat → Bool) : ∀ n x, x ∈ upto p n ↔ x < n ∧ p x = true
  | 0, x => by unfold upto; simp
  | n + 1, x => by
    have ih := upto_mem p n x
    unfold upto
    by_cases h : p n = true
    · rw [if_pos h, List.mem_append, ih, List.mem_singleton]
      constructor
      · rintro (⟨h1, h2⟩ | rfl)
        · exact ⟨by omega, h2⟩
        · exact ⟨by omega, h⟩
      · rintro ⟨h1, h2⟩
        by_cases e : x = n
        · exact .inr e
        · exact .inl ⟨by omega, h2⟩
    · rw [if_neg h, ih]
      constructor
      · rintro ⟨h1, h2⟩; exact ⟨by omega, h2⟩
      · rintro ⟨h1, h2⟩
        refine ⟨?_, h2⟩
        rcases Nat.lt_or_ge x n with g | g
        · exact g
        · have e : x = n := by omega
          rw [e] at h2; exact absurd h2 h
theorem upto_lt (p : Nat → Bool) : ∀ n, (upto p n).Pairwise (· < ·)
  | 0 => List.Pairwise.nil
  | n + 1 => by
    have ih := upto_lt p n
    unfold upto
    split
    · rw [List.pairwise_append]
      exact ⟨ih, List.pairwise_singleton _ _, fun x hx y hy => by
        obtain rfl := List.mem_singleton.1 hy
        exact ((upto_mem p _ x).1 hx).1⟩
    · exact ih
def srt (l : List Nat) (n : Nat) : List Nat := upto (fun x => hasL l x) n
theorem nats_app (l m : List Nat) : nats (l ++ m) = nats l ++ nats m := by unfold nats; simp
set_option maxHeartbeats 1000000 in
set_option maxRecDepth 100000 in
theorem rsort_c (l : List Nat) (hl : l.length ≤ 1000000) (n : Nat) (hn : n ≤ 1000000) (base : Nat) (v : Value) (w : World) (h : IntsAt w base v (nats l)) : Calls Try.prog 32 #[v, .int .i64 n] w fun e w' => ∃ v', e = .returned v' ∧ Own w' w.heap.size v' (nats (srt l n)) ∧ Below w.heap.size w w' := by
  obtain ⟨i0, hi, hz0, hz1, hz2⟩ := info_parts info_int
  have RH := Lib.hid (fun (w1 : World) (x : Nat) (h : IntsAt w1 base v (nats l)) => by
    have := rhas_c (nats l) (x : Int) (by rw [nats_len]; exact hl) base v w1 h
    rw [show (nats l).any (· == (x : Int)) = hasL l x from by unfold nats; rw [List.any_map]; rfl] at this
    exact this)
  have H := Lib.hid h
  obtain ⟨A, cap, rfl, _, _⟩ := h
  go_enter Try.func32, Try.ntmps32
  go_wp2_with fail
  go_loopw [5, 6] (fun o i wr => ∃ k : Nat, k ≤ n ∧ i = .int .i64 k ∧ Own wr w.heap.size o (nats (srt l k)) ∧ Below w.heap.size w wr) (fun _ i _ => n - (intOf i).toNat)
  case atStart => exact ⟨0, by omega, rfl, World.ownsRow_nil _ _ _ _, Below.refl _ _⟩
  case round =>
    obtain ⟨k, hk, rfl, hown, hw⟩ := hrel
    have HO := Lib.hid hown
    have HW := Lib.hid hw
    have hsz := hw.size
    have ul := upto_len (fun x => hasL l x) k
    have US := Lib.hid (show srt l (k + 1) = if hasL l k then srt l k ++ [k] else srt l k from rfl)
    have SL := Lib.hid (show (nats (srt l k)).length ≤ k by rw [nats_len]; exact ul)
    clear hown hw ul
    by_cases hlt : k < n
    · have t0 : decide (k < n) = true := by simp; omega
      cases hh : hasL l k with
      | true =>
        have HQ := RH.out wr k (H.out.below HW.out)
        rw [hh] at HQ
        have HQ' := Lib.hid HQ
        have sl := SL.out
        clear HQ
        have own1 : wr.ownsRow w.heap.size 3 1 u5 (nats (srt l k)).length (ints (nats (srt l k))) := HO.out
        go_wp2_with fail
        refine HQ'.out.mono ?_; rintro e w1 ⟨rfl, rfl⟩
        go_wp2_with (at_builtin; refine wpList_append_own _ rfl _ _ 24 rfl w.heap.size 3 i0 (.int .i64 0) 1 8 Try.underlying24 hi hz0 hz1 hz2 rfl (by decide) _ _ _ rfl (own1.alloc _) ⟨wr.heap.size, 0, none⟩ 1 1 [.int .i64 (k : Int)] rfl rfl ?c1 ?c2 ?c3 ?c4 ?c5 ?_)
        case c1 => exact cell_one_new _ _ _
        case c2 => intro u hu; simp at hu; subst hu; rfl
        case c3 => unfold maxLen; omega
        case c4 => omega
        case c5 => first | omega | (simp; omega) | simp
        intro v' w2 hown2 hgrow _
        have HW2 := Lib.hid (Below.ofGrown (below_alloc HW.out _) (own1.alloc _) hgrow (Nat.le_refl _) (by first | omega | (simp; omega) | simp))
        have HO2 := Lib.hid (show Own w2 w.heap.size v' (nats (srt l (k + 1))) by unfold Own; rw [US.out, hh, if_pos rfl, nats_app, List.length_append, ints_app]; exact hown2)
        clear hown2 hgrow own1 hh
        go_wp2_with fail
        go_roundw
        case rel => exact ⟨k + 1, by omega, by go_num, HO2.out, HW2.out⟩
        case measure => simp [intOf]; omega
      | false =>
        have HQ := RH.out wr k (H.out.below HW.out)
        rw [hh] at HQ
        have HQ' := Lib.hid HQ
        clear HQ
        have HO2 := Lib.hid (show Own wr w.heap.size u5 (nats (srt l (k + 1))) by rw [US.out, hh, if_neg (by simp)]; exact HO.out)
        clear hh
        go_wp2_with fail
        refine HQ'.out.mono ?_; rintro e w1 ⟨rfl, rfl⟩
        go_wp2_with fail
        go_roundw
        case rel => exact ⟨k + 1, by omega, by go_num, HO2.out, HW.out⟩
        case measure => simp [intOf]; omega
    · have e : k = n := by omega
      subst e
      have t0 : ¬ k < k := by omega
      go_wp2_with fail
      go_ret
      exact ⟨_, rfl, HO.out, HW.out⟩
theorem srt_perm (l : List Nat) (hd : l.Nodup) (n : Nat) (hl : ∀ x ∈ l, x < n) : (srt l n).Perm l := by
  refine (List.perm_ext_iff_of_nodup ?_ hd).2 fun x => ?_
  · unfold srt
    exact (upto_lt _ n).imp (fun h => by omega)
  · unfold srt
    rw [upto_mem]
    show x < n ∧ hasL l (x : Int) = true ↔ _
    rw [hasL_mem, decide_eq_true_eq]
    exact ⟨fun h => h.2, fun h => ⟨hl x h, h⟩⟩
/-- Sorted, a list of different numbers is the document's. -/
theorem sort_srt (l : List Nat) (hd : l.Nodup) (n : Nat) (hl : ∀ x ∈ l, x < n) : sortI (nats l) = nats (srt l n) := by
  have hp : (sortI (nats l)).Perm (nats (srt l n)) := (List.mergeSort_perm _ _).trans ((srt_perm l hd n hl).symm.map _)
  refine List.Perm.eq_of_pairwise (le := fun a b : Int => a ≤ b) (fun a b _ _ h1 h2 => by omega) ?_ ?_ hp
  · have := List.pairwise_mergeSort (le := fun x y : Int => decide (x ≤ y)) (fun a b c h1 h2 => by simp at *; omega) (fun a b => by simp; omega) (nats l)
    exact this.imp (fun h => by simpa using h)
  · unfold nats srt
    rw [List.pairwise_map]
    exact (upto_lt _ n).imp (fun h => by omega)
end Go.Proofs.Ytafcnehinanecaa
