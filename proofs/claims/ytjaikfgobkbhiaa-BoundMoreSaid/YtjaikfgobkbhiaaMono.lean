/- The closed forms rise with each of their numbers. -/
import Derived.Test.YtjaikfgobkbhiaaA
namespace Go.Proofs.Ytjaikfgobkbhiaa
theorem plus_pos (a b : Int) : 0 ≤ plusZ a b := (plus_cnt a b).1
theorem times_pos (a b : Int) : 0 ≤ timesZ a b := (times_cnt a b).1
theorem cut_pos (a : Int) : 0 ≤ cutZ a := (cut_cnt a).1
theorem cells_mono (g : Int) {a a' b b' c c' : Int} (ha : a ≤ a') (hb : b ≤ b') (hc : c ≤ c') : cellsZ g a b c ≤ cellsZ g a' b' c' := by
  have h1 : timesZ (cutZ a) 3 ≤ timesZ (cutZ a') 3 := times_mono (cut_pos _) (by omega) (cut_mono ha) (by omega)
  have h2 : timesZ (cutZ c) (plusZ (cutZ b) 1) ≤ timesZ (cutZ c') (plusZ (cutZ b') 1) := times_mono (cut_pos _) (plus_pos _ _) (cut_mono hc) (plus_mono (cut_mono hb) (by omega))
  unfold cellsZ
  by_cases g1 : g = 1
  · rw [if_pos g1, if_pos g1]; exact plus_mono (plus_mono h1 (by omega)) h2
  · rw [if_neg g1, if_neg g1]
    by_cases g2 : g = 2
    · rw [if_pos g2, if_pos g2]; exact plus_mono h1 h2
    · rw [if_neg g2, if_neg g2]
      by_cases g3 : g = 3
      · rw [if_pos g3, if_pos g3]; exact h1
      · rw [if_neg g3, if_neg g3]; omega
theorem scan_mono (g : Int) {a a' b b' : Int} (ha : a ≤ a') (hb : b ≤ b') : scanZ g a b ≤ scanZ g a' b' := by
  have hk : plusZ (cutZ b) 1 ≤ plusZ (cutZ b') 1 := plus_mono (cut_mono hb) (by omega)
  have h1 : timesZ (plusZ (cutZ b) 1) (plusZ (cutZ b) 1) ≤ timesZ (plusZ (cutZ b') 1) (plusZ (cutZ b') 1) := times_mono (plus_pos _ _) (plus_pos _ _) hk hk
  have h2 : timesZ (cutZ a) 2 ≤ timesZ (cutZ a') 2 := times_mono (cut_pos _) (by omega) (cut_mono ha) (by omega)
  have h3 : timesZ (plusZ (cutZ b) 1) (plusZ (cutZ a) 1) ≤ timesZ (plusZ (cutZ b') 1) (plusZ (cutZ a') 1) := times_mono (plus_pos _ _) (plus_pos _ _) hk (plus_mono (cut_mono ha) (by omega))
  have h4 := times_mono (times_pos (plusZ (cutZ b) 1) (plusZ (cutZ b) 1)) (times_pos (cutZ a) 2) h1 h2
  unfold scanZ
  by_cases g1 : g = 1
  · rw [if_pos g1, if_pos g1]; exact h1
  · rw [if_neg g1, if_neg g1]
    by_cases g2 : g = 2 ∨ g = 3
    · rw [if_pos g2, if_pos g2]; exact plus_mono h4 h3
    · rw [if_neg g2, if_neg g2]; omega
theorem plus_ge {a b : Int} (ha : Cnt a) (hb : 0 ≤ b) : a ≤ plusZ a b := by
  rw [show a = cutZ a from (cut_id ha).symm]
  exact cut_mono (by rw [cut_id ha]; omega)
theorem compile_mono {f f' w w' s s' c c' m m' : Int} (hf : f ≤ f') (hw : w ≤ w') (hs : s ≤ s') (hc : c ≤ c') (hm : m ≤ m') : compileZ f w s c m ≤ compileZ f' w' s' c' m' := by
  have h1 : plusZ (plusZ (cutZ f) (cutZ w)) (cutZ s) ≤ plusZ (plusZ (cutZ f') (cutZ w')) (cutZ s') := plus_mono (plus_mono (cut_mono hf) (cut_mono hw)) (cut_mono hs)
  have h2 : timesZ (cutZ s) 2 ≤ timesZ (cutZ s') 2 := times_mono (cut_pos _) (by omega) (cut_mono hs) (by omega)
  have h3 : timesZ (cutZ m) (cutZ c) ≤ timesZ (cutZ m') (cutZ c') := times_mono (cut_pos _) (cut_pos _) (cut_mono hm) (cut_mono hc)
  have h4 := times_mono (times_pos (cutZ s) 2) (plus_pos (timesZ (cutZ m) (cutZ c)) 1) h2 (plus_mono h3 (Int.le_refl 1))
  unfold compileZ
  by_cases g : m > 0
  · rw [if_pos g, if_pos (by omega)]; exact plus_mono h1 h4
  · rw [if_neg g]
    by_cases g' : m' > 0
    · rw [if_pos g']; exact Int.le_trans h1 (plus_ge (plus_cnt _ _) (times_pos _ _))
    · rw [if_neg g']; exact h1
end Go.Proofs.Ytjaikfgobkbhiaa
