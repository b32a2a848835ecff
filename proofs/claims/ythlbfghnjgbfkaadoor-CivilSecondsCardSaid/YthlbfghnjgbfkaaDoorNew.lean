
/- What stays where a run writes to new memory alone; blocks of seven and eight cells. -/
import Derived.Test.YthlbfghnjgbfkaaDoorStab
namespace Go.Proofs.YthlbfghnjgbfkaaDoor
set_option maxRecDepth 4000
open Go.RowKit
set_option linter.unusedVariables false

/-- what a run leaves that writes to nothing older than w -/
theorem Fact.far_new {w : World} : ∀ f : Fact, f.holds w → f.far (fun k => w.heap.size ≤ k)
  | .blk g t cs, h => fun hs => by have := Blk.lt h; omega
  | .byt A n cs, h => fun hn k hk hs => by have := (Byt.lt h hn).2; omega
  | .sl sz A n cs, h => fun hn k hk hs => by have := (Sl.lt h hn).2; omega
  | .mid b e sz A n c cs, h => fun k hk hs => by have := Mid.hi h; omega
  | .own b e sz A n c cs, h => fun k hk hs => by have := own_lt h; omega
  | .only S w0, h => fun k hk hs => by have := Only.size h; omega
  | .below B w0, h => fun k hk hs => by have := Below.size h.1; have := h.2; omega
  | .size n, h => trivial
  | .cell p v, h => fun hs => by have := lt_of_cell h; omega
theorem Holds.far_new {w : World} : ∀ l : List Fact, Holds l w → Far (fun k => w.heap.size ≤ k) l
  | [], _ => trivial
  | f :: l, h => ⟨f.far_new h.1, Holds.far_new l h.2⟩
theorem stayNew {l : List Fact} {w w' : World} (h : Hid (Holds l w)) (ho : Only (fun k => w.heap.size ≤ k) w w') : Hid (Holds l w') := stayAt h ho (Holds.far_new l h.out)
theorem Only.new {w w' w'' : World} {S : Nat → Prop} (h : Only (fun k => w.heap.size ≤ k) w w') (ho : Only S w' w'') (hs : ∀ k, S k → w.heap.size ≤ k) : Only (fun k => w.heap.size ≤ k) w w'' := h.trans ho (fun k _ hk => hs k hk)
section
variable {w : World} {t g : Nat} {a b c d e f k l : Value}
theorem Blk.c7 (h : Blk w g t #[a, b, c, d, e, f, k]) : w.cell? ⟨g, 0, none⟩ = some a ∧ w.cell? ⟨g, 1, none⟩ = some b ∧ w.cell? ⟨g, 2, none⟩ = some c ∧ w.cell? ⟨g, 3, none⟩ = some d ∧ w.cell? ⟨g, 4, none⟩ = some e ∧ w.cell? ⟨g, 5, none⟩ = some f ∧ w.cell? ⟨g, 6, none⟩ = some k := ⟨h.cell 0, h.cell 1, h.cell 2, h.cell 3, h.cell 4, h.cell 5, h.cell 6⟩
end
end Go.Proofs.YthlbfghnjgbfkaaDoor
