/- Facts that stay where a call writes nothing that was there: kept all at once. -/
import Derived.Test.YtkacfhnffkofaaaMid
namespace Go.Proofs.Ytkacfhnffkofaaa
open Go.RowKit
set_option linter.unusedVariables false

/-- what is known of a world and stays behind a call that writes to nothing old -/
inductive Fact where
  | blk (g t : Nat) (cs : Array Value)
  | byt (A : Option Addr) (n : Nat) (cs : List Int)
  | sl (sz : Nat) (A : Option Addr) (n : Nat) (cs : List Value)
  | mid (b e sz : Nat) (A : Option Addr) (n c : Nat) (cs : List Value)
  | own (b e sz : Nat) (A : Option Addr) (n c : Nat) (cs : List Value)
  | only (S : Nat → Prop) (w0 : World)
  | below (B : Nat) (w0 : World)
  | size (n : Nat)
  | cell (p : Addr) (v : Value)
def Fact.holds : Fact → World → Prop
  | .blk g t cs, w => Blk w g t cs
  | .byt A n cs, w => Byt w A n cs
  | .sl sz A n cs, w => Sl w sz A n cs
  | .mid b e sz A n c cs, w => Mid w b e sz A n c cs
  | .own b e sz A n c cs, w => w.ownsRow b e sz (.slice A n c) n cs
  | .only S w0, w => Only S w0 w
  | .below B w0, w => Below B w0 w ∧ B ≤ w0.heap.size
  | .size n, w => n ≤ w.heap.size
  | .cell p v, w => w.cell? p = some v
def Holds : List Fact → World → Prop
  | [], _ => True
  | f :: l, w => f.holds w ∧ Holds l w
theorem Fact.keep {w w' : World} (ho : Only (fun _ => False) w w') : ∀ f : Fact, f.holds w → f.holds w'
  | .blk g t cs, h => Blk.only h ho (fun h => h)
  | .byt A n cs, h => Byt.only h ho (fun _ _ _ h => h)
  | .sl sz A n cs, h => Sl.keep h ho
  | .mid b e sz A n c cs, h => Mid.keep h ho
  | .own b e sz A n c cs, h => own_only h ho (fun _ _ h => h)
  | .only S w0, h => Only.trans h ho (fun _ _ h => h.elim)
  | .below B w0, h => ⟨Below.put h.1 h.2 (fun _ _ h => h) ho, h.2⟩
  | .size n, h => Nat.le_trans h ho.size
  | .cell p v, h => (ho.cell (lt_of_cell h) (fun h => h)).trans h
theorem Holds.keep {w w' : World} (ho : Only (fun _ => False) w w') : ∀ l : List Fact, Holds l w → Holds l w'
  | [], h => h
  | f :: l, h => ⟨f.keep ho h.1, Holds.keep ho l h.2⟩
theorem stay {l : List Fact} {w w' : World} (h : Hid (Holds l w)) (ho : Only (fun _ => False) w w') : Hid (Holds l w') := Lib.hid (Holds.keep ho l h.out)
theorem less {f : Fact} {l : List Fact} {w : World} (h : Hid (Holds (f :: l) w)) : Hid (Holds l w) := Lib.hid h.out.2
theorem start (w : World) : Hid (Holds [.only (fun _ => False) w] w) := Lib.hid ⟨Only.refl _ w, trivial⟩
section
variable {l : List Fact} {w w' : World}
/-- behind a call, and what it told -/
theorem addB {g t : Nat} {cs : Array Value} (h : Hid (Holds l w)) (ho : Only (fun _ => False) w w') (k : Blk w' g t cs) : Hid (Holds (.blk g t cs :: l) w') := Lib.hid ⟨k, (stay h ho).out⟩
theorem addY {A : Option Addr} {n : Nat} {cs : List Int} (h : Hid (Holds l w)) (ho : Only (fun _ => False) w w') (k : Byt w' A n cs) : Hid (Holds (.byt A n cs :: l) w') := Lib.hid ⟨k, (stay h ho).out⟩
theorem addS {sz : Nat} {A : Option Addr} {n : Nat} {cs : List Value} (h : Hid (Holds l w)) (ho : Only (fun _ => False) w w') (k : Sl w' sz A n cs) : Hid (Holds (.sl sz A n cs :: l) w') := Lib.hid ⟨k, (stay h ho).out⟩
theorem addM {b e sz : Nat} {A : Option Addr} {n c : Nat} {cs : List Value} (h : Hid (Holds l w)) (ho : Only (fun _ => False) w w') (k : Mid w' b e sz A n c cs) : Hid (Holds (.mid b e sz A n c cs :: l) w') := Lib.hid ⟨k, (stay h ho).out⟩
theorem addO {b e sz : Nat} {A : Option Addr} {n c : Nat} {cs : List Value} (h : Hid (Holds l w)) (ho : Only (fun _ => False) w w') (k : w'.ownsRow b e sz (.slice A n c) n cs) : Hid (Holds (.own b e sz A n c cs :: l) w') := Lib.hid ⟨k, (stay h ho).out⟩
theorem addC {p : Addr} {v : Value} (h : Hid (Holds l w)) (ho : Only (fun _ => False) w w') (k : w'.cell? p = some v) : Hid (Holds (.cell p v :: l) w') := Lib.hid ⟨k, (stay h ho).out⟩
theorem addW {S : Nat → Prop} {w0 : World} (h : Hid (Holds l w)) (ho : Only (fun _ => False) w w') (k : Only S w0 w') : Hid (Holds (.only S w0 :: l) w') := Lib.hid ⟨k, (stay h ho).out⟩
end
section
variable {w : World} {g t : Nat} {a b c d e f : Value}
theorem Blk.c1 (h : Blk w g t #[a]) : w.cell? ⟨g, 0, none⟩ = some a := h.cell 0
theorem Blk.c2 (h : Blk w g t #[a, b]) : w.cell? ⟨g, 0, none⟩ = some a ∧ w.cell? ⟨g, 1, none⟩ = some b := ⟨h.cell 0, h.cell 1⟩
theorem Blk.c3 (h : Blk w g t #[a, b, c]) : w.cell? ⟨g, 0, none⟩ = some a ∧ w.cell? ⟨g, 1, none⟩ = some b ∧ w.cell? ⟨g, 2, none⟩ = some c := ⟨h.cell 0, h.cell 1, h.cell 2⟩
theorem Blk.c4 (h : Blk w g t #[a, b, c, d]) : w.cell? ⟨g, 0, none⟩ = some a ∧ w.cell? ⟨g, 1, none⟩ = some b ∧ w.cell? ⟨g, 2, none⟩ = some c ∧ w.cell? ⟨g, 3, none⟩ = some d := ⟨h.cell 0, h.cell 1, h.cell 2, h.cell 3⟩
theorem Blk.c5 (h : Blk w g t #[a, b, c, d, e]) : w.cell? ⟨g, 0, none⟩ = some a ∧ w.cell? ⟨g, 1, none⟩ = some b ∧ w.cell? ⟨g, 2, none⟩ = some c ∧ w.cell? ⟨g, 3, none⟩ = some d ∧ w.cell? ⟨g, 4, none⟩ = some e := ⟨h.cell 0, h.cell 1, h.cell 2, h.cell 3, h.cell 4⟩
theorem Blk.c6 (h : Blk w g t #[a, b, c, d, e, f]) : w.cell? ⟨g, 0, none⟩ = some a ∧ w.cell? ⟨g, 1, none⟩ = some b ∧ w.cell? ⟨g, 2, none⟩ = some c ∧ w.cell? ⟨g, 3, none⟩ = some d ∧ w.cell? ⟨g, 4, none⟩ = some e ∧ w.cell? ⟨g, 5, none⟩ = some f := ⟨h.cell 0, h.cell 1, h.cell 2, h.cell 3, h.cell 4, h.cell 5⟩
end
/-- a block made, under names -/
theorem made (w : World) (n : Nat) (hn : w.heap.size = n) (t : TypeId) (cs : Array Value) : ∃ W, W = w.alloc (.cells cs t) ∧ W.heap.size = n + 1 ∧ Blk W n t cs ∧ Only (fun _ => False) w W :=
  ⟨_, rfl, by simp [hn], hn ▸ Blk.new w t cs, (Only.refl _ w).alloc _⟩
end Go.Proofs.Ytkacfhnffkofaaa
