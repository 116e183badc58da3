/- A table that was made of late: what is written into older blocks is nothing to it. -/
import Derived.Test.YtafcnehinanecaaTabOut
namespace Go.Proofs.Ytafcnehinanecaa
open Go.RowKit
def Fresh (B : Nat) (w : World) (tv : Array Value) (T : Tb) : Prop := ∀ w' : World, Keep (fun k => B ≤ k) w w' → TbR w' tv T
theorem OutAt.keep {w w' : World} {B g : Nat} {c s : Int} {m : List Nat} {rows : List (List Int)} {tags : List Int} (h : OutAt w B g c s m rows tags) {b : Nat} (hb : b ≤ g) (k : Keep (fun k => b ≤ k) w w') : OutAt w' B g c s m rows tags := by
  obtain ⟨vn, vt, vs, h1, h2, h3, h4, h5, h6⟩ := h
  exact ⟨vn, vt, vs, h1.keep k hb, h2, own_keep h3 k fun q e => by have := (h3.lt _ e).1; omega, own_keep h4 k fun q e => by have := (h4.lt _ e).1; omega, h5, fun i a b =>
    ⟨own_keep (h6 i a b).1 k fun q e => by have := ((h6 i a b).1.lt _ e).1; omega, (h6 i a b).2⟩⟩
theorem OutAt.fresh {w : World} {B g : Nat} {c s : Int} {m : List Nat} {rows : List (List Int)} {tags : List Int} (h : OutAt w B g c s m rows tags) (hm : m.length = 256) (hb : ∀ n ∈ m, n < 256) {tu : Array Value} (ht : Blk w g 26 tu) {b : Nat} (hbg : b ≤ g) : Fresh b w tu ⟨c, s, m, rows, tags⟩ := fun w' k => by
  obtain ⟨tu', a, x⟩ := (h.keep hbg k).tab hm hb
  have y := ht.keep k hbg
  unfold Blk at a y
  rw [y] at a
  injection a with a
  injection a with a
  rw [a]; exact x
theorem Fresh.tab {B : Nat} {w : World} {tv : Array Value} {T : Tb} (h : Fresh B w tv T) : TbR w tv T := h w (Keep.refl _ w)
theorem Fresh.keep {B : Nat} {w w' : World} {tv : Array Value} {T : Tb} (h : Fresh B w tv T) (k : Keep (fun k => B ≤ k) w w') : Fresh B w' tv T := fun w'' k' => h w'' (k.trans k')
theorem Fresh.mono {B C : Nat} {w : World} {tv : Array Value} {T : Tb} (h : Fresh B w tv T) (hbc : C ≤ B) : Fresh C w tv T := fun w' k => h w' (k.mono fun _ _ hq => Nat.le_trans hbc hq)
theorem keep_old {B : Nat} {a w : World} (h : Keep (fun k => B ≤ k) a w) {g : Nat} (hg : g < B) (cs : Array Value) : Keep (fun k => B ≤ k) a (w.setRow g cs) :=
  ⟨h.os, h.tape, h.output, Nat.le_trans h.size (by simp [World.setRow]), fun k hk hq => (setRow_far w g k cs (by have : B ≤ k := hq; omega)).trans (h.block k hk hq)⟩
end Go.Proofs.Ytafcnehinanecaa
