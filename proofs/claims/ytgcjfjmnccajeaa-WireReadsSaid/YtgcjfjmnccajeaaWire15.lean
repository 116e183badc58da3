/- The reference's rows of numbers. -/
import Derived.Test.YtgcjfjmnccajeaaWire14
import Derived.Maps.AppendAt
namespace Go.Proofs.Ytgcjfjmnccajeaa
open Go.RowKit
def ints (l : List Nat) : List Value := l.map fun n => Value.int .i64 (n : Nat)
def NumsE (s : List UInt8) (k : Nat) (w : World) (e : Ending) (w' : World) : Prop :=
  (readNs most k s = none ∧ e = .returned (.tuple #[.slice none 0 0, .string ⟨[].toArray⟩, .bool false])) ∨
  (∃ l r v, readNs most k s = some (l, r) ∧ e = .returned (.tuple #[v, .string ⟨r.toArray⟩, .bool true]) ∧ w'.ownsRow w.heap.size 3 1 v l.length (ints l))
theorem takeP_some {s : List UInt8} {n : Nat} {r : List UInt8} (h : readN most s = some (n, r)) : takeP s = (n, s.length - r.length) ∧ 0 < s.length - r.length ∧ s.length - r.length ≤ s.length ∧ s.drop (s.length - r.length) = r := by
  have h1 := (readN_take h (Nat.le_refl _)).1
  have h2 : r.length < s.length := by
    unfold readN at h
    cases hh : rdF 7 0 0 s with
    | none => rw [hh] at h; cases h
    | some p =>
      obtain ⟨n', r'⟩ := p
      have hb := rd_bound _ _ _ _ _ _ hh
      rw [hh] at h
      simp only at h
      split at h
      · injection h with h; injection h with _ e2; rw [← e2]; exact hb
      · cases h
  refine ⟨by unfold takeP; rw [h], by omega, by omega, ?_⟩
  have hl := congrArg List.length h1
  rw [List.length_append] at hl
  have he : s.length - r.length = (encN n).length := by omega
  rw [he, h1, List.drop_left]
theorem takeP_none {s : List UInt8} (h : readN most s = none) : takeP s = (0, 0) := by unfold takeP; rw [h]
theorem readNs_step {k : Nat} {s r : List UInt8} {n : Nat} (h : readN most s = some (n, r)) : readNs most (k + 1) s = (match readNs most k r with | none => none | some (l, r2) => some (n :: l, r2)) := by
  show (match readN most s with | none => none | some (n, r) => match readNs most k r with | none => none | some (l, r2) => some (n :: l, r2)) = _
  rw [h]
theorem readNs_no {k : Nat} {s : List UInt8} (h : readN most s = none) : readNs most (k + 1) s = none := by
  show (match readN most s with | none => none | some (n, r) => match readNs most k r with | none => none | some (l, r2) => some (n :: l, r2)) = _
  rw [h]
/-- So many numbers behind some. -/
def pre (acc : List Nat) (x : Option (List Nat × List UInt8)) : Option (List Nat × List UInt8) := x.map fun p => (acc ++ p.1, p.2)
theorem pre_step {k : Nat} {s r : List UInt8} {n : Nat} {acc : List Nat} (h : readN most s = some (n, r)) : pre acc (readNs most (k + 1) s) = pre (acc ++ [n]) (readNs most k r) := by
  rw [readNs_step h]
  unfold pre
  cases readNs most k r with
  | none => rfl
  | some p => simp
theorem info_int : (Try.prog.info? 3).map (fun i => (i.zero, i.size, i.bytes)) = some (some (.int .i64 0), 1, 8) := by kernel_rfl
set_option maxHeartbeats 2000000 in
set_option maxRecDepth 100000 in
theorem nums_c (l : List UInt8) (hl : l.length ≤ 1000000) (k : Nat) (hk : k ≤ 5) (w : World) : Calls Try.prog 18 #[.string ⟨l.toArray⟩, .int .i64 k] w fun e w' => NumsE l k w e w' ∧ Below w.heap.size w w' := by
  obtain ⟨i0, hti, hz0, hz1, hz2⟩ := info_parts info_int
  have HNE := Lib.hid (fun e w' => NumsE.eq_1 l k w e w')
  generalize hs : (⟨l.toArray⟩ : ByteArray) = s
  have HS := Lib.hid hs
  clear hs
  go_enter Try.func18, Try.ntmps18
  go_wp2_with fail
  go_loopw [0, 7, 8, 9, 10] (fun v0 v7 v8 _ _ wr => ∃ (i : Nat) (acc : List Nat) (r : List UInt8), i ≤ k ∧ v0 = .string ⟨r.toArray⟩ ∧ v8 = .int .i64 i ∧ r.length ≤ l.length ∧ readNs most k l = pre acc (readNs most (k - i) r) ∧ acc.length = i ∧ wr.ownsRow w.heap.size 3 1 v7 acc.length (ints acc) ∧ Below w.heap.size w wr) (fun _ _ v8 _ _ _ => k - (intOf v8).toNat)
  case atStart => exact ⟨0, [], l, Nat.zero_le _, by rw [HS.out], rfl, Nat.le_refl _, by unfold pre; cases readNs most k l <;> simp, rfl, World.ownsRow_nil _ _ _ _, Below.refl _ _⟩
  case round =>
    clear HS
    obtain ⟨i, acc, r, hi, rfl, rfl, hr, heq, rfl, hown, hb⟩ := hrel
    have HE := Lib.hid heq
    have HO := Lib.hid hown
    have HB := Lib.hid hb
    have hsz := hb.size
    obtain ⟨ao, cap, rfl, _⟩ := own_form hown
    clear heq hown hb
    by_cases hlt : acc.length < k
    · have t1 : decide (acc.length < k) = true := by simp; omega
      have TC := Lib.hid (take_c r (by omega) wr)
      have HK := Lib.hid (show k - acc.length = (k - (acc.length + 1)) + 1 from by omega)
      cases hx : readN most r with
      | none =>
        rw [takeP_none hx] at TC
        have HX := Lib.hid (show readNs most k l = none from by rw [HE.out, HK.out, readNs_no hx]; rfl)
        clear hx
        go_wp2_with fail
        refine TC.out.mono ?_; rintro e w1 ⟨rfl, rfl⟩
        go_wp2_with fail
        go_returns
        exact ⟨.inl ⟨HX.out, rfl⟩, HB.out⟩
      | some p =>
        obtain ⟨n, r2⟩ := p
        obtain ⟨g1, g2, g3, g4⟩ := takeP_some hx
        have hn : n ≤ most := (readN_take hx (Nat.le_refl _)).2
        have HX := Lib.hid (show readNs most k l = pre (acc ++ [n]) (readNs most (k - (acc.length + 1)) r2) from by rw [HE.out, HK.out, pre_step hx])
        rw [g1] at TC
        simp only at TC
        have HD := Lib.hid g4
        have hms := mk_size r
        have EX := Lib.hid (fun j => mk_to_end r j (⟨r.toArray⟩ : ByteArray).size (by rw [mk_size]; exact Nat.le_refl _))
        have hr2 : r2.length ≤ l.length := by omega
        generalize r.length - r2.length = j at *
        clear g1 g4 hx
        obtain ⟨sr, hsr⟩ : ∃ sr, sr = (⟨r.toArray⟩ : ByteArray) := ⟨_, rfl⟩
        have HSR := Lib.hid hsr
        have e0 : str r = .string sr := by rw [hsr]; rfl
        rw [e0] at TC
        clear e0
        rw [← hsr] at hms EX ⊢
        have hj : j ≤ sr.size := by omega
        have hsz2 : sr.size ≤ 1000000 := by omega
        have tj : ((j : Int) == 0) = false := by rw [beq_eq_false_iff_ne]; omega
        have hjs : (j : Int) ≤ (sr.size : Nat) := by omega
        clear hms hsr
        unfold most at hn
        go_wp2_with fail
        refine TC.out.mono ?_; rintro e w1 ⟨rfl, rfl⟩
        have hal : acc.length ≤ 5 := by omega
        go_wp2_with (at_builtin; refine wpList_append_own_at _ rfl _ _ 56 rfl w.heap.size 3 i0 (.int .i64 0) 1 8 Try.underlying56 hti hz0 hz1 hz2 rfl (by decide) _ _ _ rfl (HO.out.alloc _) ⟨wr.heap.size, 0, none⟩ 1 1 [.int .i64 n] rfl rfl ?c1 ?c2 ?c3 ?c4 ?c5 ?_)
        case c1 => exact cell_one_new _ _ _
        case c2 => intro u hu; simp at hu; subst hu; rfl
        case c3 => unfold maxLen; omega
        case c4 => omega
        case c5 => first | omega | (simp; omega) | simp
        intro v' w2 hown' hgrow _ hat
        have HO2 := Lib.hid (show w2.ownsRow w.heap.size 3 1 v' (acc ++ [n]).length (ints (acc ++ [n])) from by
          rw [List.length_append]; unfold ints; rw [List.map_append]; exact hown')
        have HB2 := Lib.hid (Below.ofGrown (below_alloc HB.out _) (HO.out.alloc _) hgrow (Nat.le_refl _) (by simp; omega))
        clear hown' hgrow hat
        go_wp2_with fail
        go_roundw
        case rel => exact ⟨acc.length + 1, acc ++ [n], r2, by omega, by rw [EX.out, HD.out], by go_num, hr2, HX.out, by simp, HO2.out, HB2.out⟩
        case measure => simp [intOf]; omega
    · have e : acc.length = k := by omega
      have t1 : decide (acc.length < k) = false := by simp; omega
      have HX := Lib.hid (show readNs most k l = some (acc, r) from by rw [HE.out, e, Nat.sub_self]; unfold pre; simp [readNs])
      clear e
      go_wp2_with fail
      go_returns
      exact ⟨.inr ⟨acc, r, _, HX.out, rfl, HO.out⟩, HB.out⟩
end Go.Proofs.Ytgcjfjmnccajeaa
