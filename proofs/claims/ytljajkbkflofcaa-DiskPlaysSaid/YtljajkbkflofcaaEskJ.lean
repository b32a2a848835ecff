
/- What the disk's laws share. -/
import Derived.Test.YtljajkbkflofcaaEskI
namespace Go.Proofs.Ytljajkbkflofcaa
set_option maxRecDepth 4000
open Go.RowKit
variable {I : Nat → Prop}
set_option linter.unusedVariables false
set_option linter.unusedSimpArgs false

theorem Only.newD {w wr w' : World} {B : Nat} (ho : Only (fun k => w.heap.size ≤ k) w wr) (hB : w.heap.size ≤ B) (h : Only (Dt I wr B) wr w') : Only (fun k => w.heap.size ≤ k) w w' := ho.trans h (fun q _ hw => Nat.le_trans hB hw.1)
theorem Sl.new {w0 w : World} {sz n : Nat} {A : Option Addr} {xs : List Value} (h : Sl w0 sz A n xs) (ho : Only (fun k => w0.heap.size ≤ k) w0 w) : Sl w sz A n xs := h.only ho (fun hn k hk hs => by have := (h.lt hn).2; omega)
theorem Only.new_below {w0 w : World} (ho : Only (fun k => w0.heap.size ≤ k) w0 w) : Below w0.heap.size w0 w := ho.below (Nat.le_refl _) (fun k hk h => by omega)
theorem blk_not {w : World} {go t B : Nat} {cs : Array Value} (h : Blk w go t cs) (ht : t ≠ 59 ∧ t ≠ 64 ∧ t ≠ 3 ∧ t ≠ 66) : ¬ Dt I w B go := by
  intro ⟨_, cur, e', fr, hh, h2⟩
  unfold Blk at h
  rw [h] at hh
  injection hh with hh
  injection hh with _ h3
  subst h3
  rcases h2 with rfl | rfl | ⟨rfl, -⟩ | rfl
  · exact ht.1 rfl
  · exact ht.2.1 rfl
  · exact ht.2.2.1 rfl
  · exact ht.2.2.2 rfl
theorem Blk.keepD {w w' : World} {go t B : Nat} {cs : Array Value} (h : Blk w go t cs) (ho : Only (Dt I w B) w w') (ht : t ≠ 59 ∧ t ≠ 64 ∧ t ≠ 3 ∧ t ≠ 66) : Blk w' go t cs := h.only ho (blk_not h ht)
theorem Ds.keepB {w w' : World} {B g go t : Nat} {a : Da} {D : Dk} {cs : Array Value} (h : Ds I w B g a D) (hb : Blk w go t cs) (ho : Only (fun k => k = go) w w') (ht : t ≠ 59 ∧ t ≠ 64 ∧ t ≠ 3 ∧ t ≠ 66) : Ds I w' B g a D := h.only ho (fun k e => by subst e; exact blk_not hb ht)
end Go.Proofs.Ytljajkbkflofcaa
