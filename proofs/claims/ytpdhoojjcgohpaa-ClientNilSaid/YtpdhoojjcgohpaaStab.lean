
/- Facts that stay where a call writes nothing that was there: kept all at once. -/
import Derived.Test.YtpdhoojjcgohpaaMid
import Derived.Lib.QuietBelow
namespace Go.Proofs.Ytpdhoojjcgohpaa
set_option maxRecDepth 4000
open Go.RowKit
set_option linter.unusedVariables false

/-- what is known of a world and stays behind a call that writes to nothing old -/
inductive Fact where
  | blk (g t : Nat) (cs : Array Value)
  | byt (A : Option Addr) (n : Nat) (cs : List Int)
  | sl (sz : Nat) (A : Option Addr) (n : Nat) (cs : List Value)
  | mid (b e sz : Nat) (A : Option Addr) (n c : Nat) (cs : List Value)
  | own (b e sz : Nat) (A : Option Addr) (n c : Nat) (cs : List Value)
  | only (S : Nat → Prop) (w0 : World)
  | below (B : Nat) (w0 : World)
  | size (n : Nat)
  | cell (p : Addr) (v : Value)
def Fact.holds : Fact → World → Prop
  | .blk g t cs, w => Blk w g t cs
  | .byt A n cs, w => Byt w A n cs
  | .sl sz A n cs, w => Sl w sz A n cs
  | .mid b e sz A n c cs, w => Mid w b e sz A n c cs
  | .own b e sz A n c cs, w => w.ownsRow b e sz (.slice A n c) n cs
  | .only S w0, w => Only S w0 w
  | .below B w0, w => Below B w0 w ∧ B ≤ w0.heap.size
  | .size n, w => n ≤ w.heap.size
  | .cell p v, w => w.cell? p = some v
def Holds : List Fact → World → Prop
  | [], _ => True
  | f :: l, w => f.holds w ∧ Holds l w
theorem Fact.keep {w w' : World} (ho : Only (fun _ => False) w w') : ∀ f : Fact, f.holds w → f.holds w'
  | .blk g t cs, h => Blk.only h ho (fun h => h)
  | .byt A n cs, h => Byt.only h ho (fun _ _ _ h => h)
  | .sl sz A n cs, h => Sl.keep h ho
  | .mid b e sz A n c cs, h => Mid.keep h ho
  | .own b e sz A n c cs, h => own_only h ho (fun _ _ h => h)
  | .only S w0, h => Only.trans h ho (fun _ _ h => h.elim)
  | .below B w0, h => ⟨Below.put h.1 h.2 (fun _ _ h => h) ho, h.2⟩
  | .size n, h => Nat.le_trans h ho.size
  | .cell p v, h => (ho.cell (lt_of_cell h) (fun h => h)).trans h
theorem Holds.keep {w w' : World} (ho : Only (fun _ => False) w w') : ∀ l : List Fact, Holds l w → Holds l w'
  | [], h => h
  | f :: l, h => ⟨f.keep ho h.1, Holds.keep ho l h.2⟩
theorem stay {l : List Fact} {w w' : World} (h : Hid (Holds l w)) (ho : Only (fun _ => False) w w') : Hid (Holds l w') := Lib.hid (Holds.keep ho l h.out)
theorem less {f : Fact} {l : List Fact} {w : World} (h : Hid (Holds (f :: l) w)) : Hid (Holds l w) := Lib.hid h.out.2
theorem start (w : World) : Hid (Holds [.only (fun _ => False) w] w) := Lib.hid ⟨Only.refl _ w, trivial⟩
/-- what a call that writes to S leaves alone -/
def Fact.far (S : Nat → Prop) : Fact → Prop
  | .blk g _ _ => ¬ S g
  | .byt A n _ => 0 < n → ∀ k, k + 1 = bk A → ¬ S k
  | .sl sz A n _ => 0 < n * sz → ∀ k, k + 1 = bk A → ¬ S k
  | .mid _ _ _ A _ _ _ => ∀ k, k + 1 = bk A → ¬ S k
  | .own _ _ _ A _ _ _ => ∀ k, k + 1 = bk A → ¬ S k
  | .only S' w0 => ∀ k, k < w0.heap.size → S k → S' k
  | .below B _ => ∀ k, k < B → ¬ S k
  | .size _ => True
  | .cell p _ => ¬ S p.block
def Far (S : Nat → Prop) : List Fact → Prop
  | [] => True
  | f :: l => f.far S ∧ Far S l
theorem Fact.keepAt {S : Nat → Prop} {w w' : World} (ho : Only S w w') : ∀ f : Fact, f.far S → f.holds w → f.holds w'
  | .blk g t cs, hf, h => Blk.only h ho hf
  | .byt A n cs, hf, h => Byt.only h ho hf
  | .sl sz A n cs, hf, h => Sl.only h ho hf
  | .mid b e sz A n c cs, hf, h => Mid.only h ho hf
  | .own b e sz A n c cs, hf, h => own_only h ho hf
  | .only S' w0, hf, h => Only.trans h ho hf
  | .below B w0, hf, h => ⟨Below.put h.1 h.2 hf ho, h.2⟩
  | .size n, _, h => Nat.le_trans h ho.size
  | .cell p v, hf, h => (ho.cell (lt_of_cell h) hf).trans h
theorem Holds.keepAt {S : Nat → Prop} {w w' : World} (ho : Only S w w') : ∀ l : List Fact, Far S l → Holds l w → Holds l w'
  | [], _, h => h
  | f :: l, hf, h => ⟨f.keepAt ho hf.1 h.1, Holds.keepAt ho l hf.2 h.2⟩
theorem stayAt {S : Nat → Prop} {l : List Fact} {w w' : World} (h : Hid (Holds l w)) (ho : Only S w w') (hf : Far S l) : Hid (Holds l w') := Lib.hid (Holds.keepAt ho l hf h.out)
/-- the same of one block, in numbers -/
def Fact.farB (g : Nat) : Fact → Prop
  | .blk g' _ _ => g' ≠ g
  | .byt A n _ => n = 0 ∨ bk A ≠ g + 1
  | .sl _ A n _ => n = 0 ∨ bk A ≠ g + 1
  | .mid _ _ _ A _ _ _ => bk A ≠ g + 1
  | .own _ _ _ A _ _ _ => bk A ≠ g + 1
  | .only _ w0 => w0.heap.size ≤ g
  | .below B _ => B ≤ g
  | .size _ => True
  | .cell p _ => p.block ≠ g
def FarB (g : Nat) : List Fact → Prop
  | [] => True
  | f :: l => f.farB g ∧ FarB g l
theorem Fact.farB_far {g : Nat} : ∀ f : Fact, f.farB g → f.far (fun q => q = g)
  | .blk g' _ _, h => h
  | .byt A n _, h => fun hn k hk e => by rcases h with h | h <;> omega
  | .sl sz A n _, h => fun hn k hk e => by
    rcases h with h | h
    · subst h; omega
    · omega
  | .mid _ _ _ A _ _ _, h => fun k hk e => by have h' : bk A ≠ g + 1 := h; omega
  | .own _ _ _ A _ _ _, h => fun k hk e => by have h' : bk A ≠ g + 1 := h; omega
  | .only _ w0, h => fun k hk e => by have h' : w0.heap.size ≤ g := h; omega
  | .below B _, h => fun k hk e => by have h' : B ≤ g := h; omega
  | .size _, _ => trivial
  | .cell p _, h => h
theorem FarB.far {g : Nat} : ∀ l : List Fact, FarB g l → Far (fun q => q = g) l
  | [], h => h
  | f :: l, h => ⟨f.farB_far h.1, FarB.far l h.2⟩
theorem stayB {g : Nat} {l : List Fact} {w w' : World} (h : Hid (Holds l w)) (ho : Only (fun q => q = g) w w') (hf : FarB g l) : Hid (Holds l w') := stayAt h ho (FarB.far l hf)
section
variable {l : List Fact} {w w' : World}
/-- behind a call, and what it told -/
theorem addB {g t : Nat} {cs : Array Value} (h : Hid (Holds l w)) (ho : Only (fun _ => False) w w') (k : Blk w' g t cs) : Hid (Holds (.blk g t cs :: l) w') := Lib.hid ⟨k, (stay h ho).out⟩
theorem addY {A : Option Addr} {n : Nat} {cs : List Int} (h : Hid (Holds l w)) (ho : Only (fun _ => False) w w') (k : Byt w' A n cs) : Hid (Holds (.byt A n cs :: l) w') := Lib.hid ⟨k, (stay h ho).out⟩
theorem addS {sz : Nat} {A : Option Addr} {n : Nat} {cs : List Value} (h : Hid (Holds l w)) (ho : Only (fun _ => False) w w') (k : Sl w' sz A n cs) : Hid (Holds (.sl sz A n cs :: l) w') := Lib.hid ⟨k, (stay h ho).out⟩
theorem addM {b e sz : Nat} {A : Option Addr} {n c : Nat} {cs : List Value} (h : Hid (Holds l w)) (ho : Only (fun _ => False) w w') (k : Mid w' b e sz A n c cs) : Hid (Holds (.mid b e sz A n c cs :: l) w') := Lib.hid ⟨k, (stay h ho).out⟩
theorem addO {b e sz : Nat} {A : Option Addr} {n c : Nat} {cs : List Value} (h : Hid (Holds l w)) (ho : Only (fun _ => False) w w') (k : w'.ownsRow b e sz (.slice A n c) n cs) : Hid (Holds (.own b e sz A n c cs :: l) w') := Lib.hid ⟨k, (stay h ho).out⟩
theorem addC {p : Addr} {v : Value} (h : Hid (Holds l w)) (ho : Only (fun _ => False) w w') (k : w'.cell? p = some v) : Hid (Holds (.cell p v :: l) w') := Lib.hid ⟨k, (stay h ho).out⟩
theorem addW {S : Nat → Prop} {w0 : World} (h : Hid (Holds l w)) (ho : Only (fun _ => False) w w') (k : Only S w0 w') : Hid (Holds (.only S w0 :: l) w') := Lib.hid ⟨k, (stay h ho).out⟩
end
section
variable {w : World} {g t : Nat} {a b c d e f : Value}
theorem Blk.c1 (h : Blk w g t #[a]) : w.cell? ⟨g, 0, none⟩ = some a := h.cell 0
theorem Blk.c2 (h : Blk w g t #[a, b]) : w.cell? ⟨g, 0, none⟩ = some a ∧ w.cell? ⟨g, 1, none⟩ = some b := ⟨h.cell 0, h.cell 1⟩
theorem Blk.c3 (h : Blk w g t #[a, b, c]) : w.cell? ⟨g, 0, none⟩ = some a ∧ w.cell? ⟨g, 1, none⟩ = some b ∧ w.cell? ⟨g, 2, none⟩ = some c := ⟨h.cell 0, h.cell 1, h.cell 2⟩
theorem Blk.c4 (h : Blk w g t #[a, b, c, d]) : w.cell? ⟨g, 0, none⟩ = some a ∧ w.cell? ⟨g, 1, none⟩ = some b ∧ w.cell? ⟨g, 2, none⟩ = some c ∧ w.cell? ⟨g, 3, none⟩ = some d := ⟨h.cell 0, h.cell 1, h.cell 2, h.cell 3⟩
theorem Blk.c5 (h : Blk w g t #[a, b, c, d, e]) : w.cell? ⟨g, 0, none⟩ = some a ∧ w.cell? ⟨g, 1, none⟩ = some b ∧ w.cell? ⟨g, 2, none⟩ = some c ∧ w.cell? ⟨g, 3, none⟩ = some d ∧ w.cell? ⟨g, 4, none⟩ = some e := ⟨h.cell 0, h.cell 1, h.cell 2, h.cell 3, h.cell 4⟩
theorem Blk.c6 (h : Blk w g t #[a, b, c, d, e, f]) : w.cell? ⟨g, 0, none⟩ = some a ∧ w.cell? ⟨g, 1, none⟩ = some b ∧ w.cell? ⟨g, 2, none⟩ = some c ∧ w.cell? ⟨g, 3, none⟩ = some d ∧ w.cell? ⟨g, 4, none⟩ = some e ∧ w.cell? ⟨g, 5, none⟩ = some f := ⟨h.cell 0, h.cell 1, h.cell 2, h.cell 3, h.cell 4, h.cell 5⟩
end
/-- stores into a block of the call's own, in the walk's own form -/
theorem put3 (W : World) (rb t : Nat) (z : Array Value) (h : Blk W rb t z) (hz : z.size = 3) (x0 x1 x2 : Value) :
    ∃ V, V = ((W.setCell ⟨rb, 0, none⟩ x0).setCell ⟨rb, 1, none⟩ x1).setCell ⟨rb, 2, none⟩ x2 ∧ Blk V rb t #[x0, x1, x2] ∧ Only (fun k => k = rb) W V := by
  refine ⟨_, rfl, (((h.set_ 0 x0).set_ 1 x1).set_ 2 x2).to ?_, ((only_set W _ 0 _).then (only_set _ _ 1 _)).then (only_set _ _ 2 _)⟩
  match z, hz with
  | ⟨[a, b, c]⟩, _ => simp
theorem put4' (W : World) (rb t : Nat) (z : Array Value) (h : Blk W rb t z) (hz : z.size = 4) (x0 x1 x2 x3 : Value) :
    ∃ V, V = (((W.setCell ⟨rb, 0, none⟩ x0).setCell ⟨rb, 1, none⟩ x1).setCell ⟨rb, 2, none⟩ x2).setCell ⟨rb, 3, none⟩ x3 ∧ Blk V rb t #[x0, x1, x2, x3] ∧ Only (fun k => k = rb) W V := by
  refine ⟨_, rfl, ((((h.set_ 0 x0).set_ 1 x1).set_ 2 x2).set_ 3 x3).to ?_, (((only_set W _ 0 _).then (only_set _ _ 1 _)).then (only_set _ _ 2 _)).then (only_set _ _ 3 _)⟩
  match z, hz with
  | ⟨[a, b, c, d]⟩, _ => simp
theorem put5 (W : World) (rb t : Nat) (z : Array Value) (h : Blk W rb t z) (hz : z.size = 5) (x0 x1 x2 x3 x4 : Value) :
    ∃ V, V = ((((W.setCell ⟨rb, 0, none⟩ x0).setCell ⟨rb, 1, none⟩ x1).setCell ⟨rb, 2, none⟩ x2).setCell ⟨rb, 3, none⟩ x3).setCell ⟨rb, 4, none⟩ x4 ∧ Blk V rb t #[x0, x1, x2, x3, x4] ∧ Only (fun k => k = rb) W V := by
  refine ⟨_, rfl, (((((h.set_ 0 x0).set_ 1 x1).set_ 2 x2).set_ 3 x3).set_ 4 x4).to ?_, ((((only_set W _ 0 _).then (only_set _ _ 1 _)).then (only_set _ _ 2 _)).then (only_set _ _ 3 _)).then (only_set _ _ 4 _)⟩
  match z, hz with
  | ⟨[a, b, c, d, e]⟩, _ => simp
theorem put6 (W : World) (rb t : Nat) (z : Array Value) (h : Blk W rb t z) (hz : z.size = 6) (x0 x1 x2 x3 x4 x5 : Value) :
    ∃ V, V = (((((W.setCell ⟨rb, 0, none⟩ x0).setCell ⟨rb, 1, none⟩ x1).setCell ⟨rb, 2, none⟩ x2).setCell ⟨rb, 3, none⟩ x3).setCell ⟨rb, 4, none⟩ x4).setCell ⟨rb, 5, none⟩ x5 ∧ Blk V rb t #[x0, x1, x2, x3, x4, x5] ∧ Only (fun k => k = rb) W V := by
  refine ⟨_, rfl, ((((((h.set_ 0 x0).set_ 1 x1).set_ 2 x2).set_ 3 x3).set_ 4 x4).set_ 5 x5).to ?_, (((((only_set W _ 0 _).then (only_set _ _ 1 _)).then (only_set _ _ 2 _)).then (only_set _ _ 3 _)).then (only_set _ _ 4 _)).then (only_set _ _ 5 _)⟩
  match z, hz with
  | ⟨[a, b, c, d, e, f]⟩, _ => simp
theorem put1 (W : World) (rb t i : Nat) (z : Array Value) (h : Blk W rb t z) (x : Value) :
    ∃ V, V = W.setCell ⟨rb, i, none⟩ x ∧ Blk V rb t (z.setIfInBounds i x) ∧ Only (fun k => k = rb) W V := ⟨_, rfl, h.set_ i x, only_set W _ i _⟩
theorem put2 (W : World) (rb t i j : Nat) (z : Array Value) (h : Blk W rb t z) (x y : Value) :
    ∃ V, V = (W.setCell ⟨rb, i, none⟩ x).setCell ⟨rb, j, none⟩ y ∧ Blk V rb t ((z.setIfInBounds i x).setIfInBounds j y) ∧ Only (fun k => k = rb) W V := ⟨_, rfl, (h.set_ i x).set_ j y, (only_set W _ i _).then (only_set _ _ j _)⟩
/-- a block made, under names -/
theorem made (w : World) (n : Nat) (hn : w.heap.size = n) (t : TypeId) (cs : Array Value) : ∃ W, W = w.alloc (.cells cs t) ∧ W.heap.size = n + 1 ∧ Blk W n t cs ∧ Only (fun _ => False) w W :=
  ⟨_, rfl, by simp [hn], hn ▸ Blk.new w t cs, (Only.refl _ w).alloc _⟩
/-! ### A drawn region whose callees make memory -/
theorem regrown_only (V : World) (d : Nat) (os : Array Obj) : Only (fun _ => False) V (Sort.grow (redrawn V d) os) := (Only.of_below (below_regrown V d os)).mono (fun i hi hb => by omega)
theorem stayG {l : List Fact} {V : World} (h : Hid (Holds l V)) (d : Nat) (os : Array Obj) : Hid (Holds l (Sort.grow (redrawn V d) os)) := stay h (regrown_only V d os)
section
variable {w : World} {g t : Nat} {a b c d e f : Value}
theorem Blk.r1 (h : Blk w g t #[a]) : ∀ n os, (Sort.grow (redrawn w n) os).cell? ⟨g, 0, none⟩ = some a := cell_regrown (h.cell 0)
theorem Blk.r2 (h : Blk w g t #[a, b]) : (∀ n os, (Sort.grow (redrawn w n) os).cell? ⟨g, 0, none⟩ = some a) ∧ ∀ n os, (Sort.grow (redrawn w n) os).cell? ⟨g, 1, none⟩ = some b := ⟨cell_regrown (h.cell 0), cell_regrown (h.cell 1)⟩
theorem Blk.r3 (h : Blk w g t #[a, b, c]) : (∀ n os, (Sort.grow (redrawn w n) os).cell? ⟨g, 0, none⟩ = some a) ∧ (∀ n os, (Sort.grow (redrawn w n) os).cell? ⟨g, 1, none⟩ = some b) ∧ ∀ n os, (Sort.grow (redrawn w n) os).cell? ⟨g, 2, none⟩ = some c := ⟨cell_regrown (h.cell 0), cell_regrown (h.cell 1), cell_regrown (h.cell 2)⟩
theorem Blk.r4 (h : Blk w g t #[a, b, c, d]) : (∀ n os, (Sort.grow (redrawn w n) os).cell? ⟨g, 0, none⟩ = some a) ∧ (∀ n os, (Sort.grow (redrawn w n) os).cell? ⟨g, 1, none⟩ = some b) ∧ (∀ n os, (Sort.grow (redrawn w n) os).cell? ⟨g, 2, none⟩ = some c) ∧ ∀ n os, (Sort.grow (redrawn w n) os).cell? ⟨g, 3, none⟩ = some d := ⟨cell_regrown (h.cell 0), cell_regrown (h.cell 1), cell_regrown (h.cell 2), cell_regrown (h.cell 3)⟩
theorem Blk.r6 (h : Blk w g t #[a, b, c, d, e, f]) : (∀ n os, (Sort.grow (redrawn w n) os).cell? ⟨g, 0, none⟩ = some a) ∧ (∀ n os, (Sort.grow (redrawn w n) os).cell? ⟨g, 1, none⟩ = some b) ∧ (∀ n os, (Sort.grow (redrawn w n) os).cell? ⟨g, 2, none⟩ = some c) ∧ (∀ n os, (Sort.grow (redrawn w n) os).cell? ⟨g, 3, none⟩ = some d) ∧ (∀ n os, (Sort.grow (redrawn w n) os).cell? ⟨g, 4, none⟩ = some e) ∧ ∀ n os, (Sort.grow (redrawn w n) os).cell? ⟨g, 5, none⟩ = some f := ⟨cell_regrown (h.cell 0), cell_regrown (h.cell 1), cell_regrown (h.cell 2), cell_regrown (h.cell 3), cell_regrown (h.cell 4), cell_regrown (h.cell 5)⟩
end
end Go.Proofs.Ytpdhoojjcgohpaa
