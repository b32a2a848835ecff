/- Texts joined: Stab OctX EthR EthU Flt. -/
import Derived.Test.YtpdhoojjcgohpaaGreatB2
import Derived.Lib.QuietBelow
import Derived.Test.YtpdhoojjcgohpaaGreatB3
import Derived.Deep.RegionHeld3
import Derived.Laws.StructEq
import Derived.Laws.FloatArith
import Derived.Laws.ComplexArith
import Derived.Laws.BitsLemmas
import Derived.Laws.Bits64
namespace Go.Proofs.YtpdhoojjcgohpaaGreat
set_option maxRecDepth 4000
open Go.RowKit
set_option linter.unusedVariables false

/-- what is known of a world and stays behind a call that writes to nothing old -/
inductive Fact where
  | blk (g t : Nat) (cs : Array Value)
  | byt (A : Option Addr) (n : Nat) (cs : List Int)
  | sl (sz : Nat) (A : Option Addr) (n : Nat) (cs : List Value)
  | mid (b e sz : Nat) (A : Option Addr) (n c : Nat) (cs : List Value)
  | own (b e sz : Nat) (A : Option Addr) (n c : Nat) (cs : List Value)
  | only (S : Nat → Prop) (w0 : World)
  | below (B : Nat) (w0 : World)
  | size (n : Nat)
  | cell (p : Addr) (v : Value)
def Fact.holds : Fact → World → Prop
  | .blk g t cs, w => Blk w g t cs
  | .byt A n cs, w => Byt w A n cs
  | .sl sz A n cs, w => Sl w sz A n cs
  | .mid b e sz A n c cs, w => Mid w b e sz A n c cs
  | .own b e sz A n c cs, w => w.ownsRow b e sz (.slice A n c) n cs
  | .only S w0, w => Only S w0 w
  | .below B w0, w => Below B w0 w ∧ B ≤ w0.heap.size
  | .size n, w => n ≤ w.heap.size
  | .cell p v, w => w.cell? p = some v
def Holds : List Fact → World → Prop
  | [], _ => True
  | f :: l, w => f.holds w ∧ Holds l w
theorem Fact.keep {w w' : World} (ho : Only (fun _ => False) w w') : ∀ f : Fact, f.holds w → f.holds w'
  | .blk g t cs, h => Blk.only h ho (fun h => h)
  | .byt A n cs, h => Byt.only h ho (fun _ _ _ h => h)
  | .sl sz A n cs, h => Sl.keep h ho
  | .mid b e sz A n c cs, h => Mid.keep h ho
  | .own b e sz A n c cs, h => own_only h ho (fun _ _ h => h)
  | .only S w0, h => Only.trans h ho (fun _ _ h => h.elim)
  | .below B w0, h => ⟨Below.put h.1 h.2 (fun _ _ h => h) ho, h.2⟩
  | .size n, h => Nat.le_trans h ho.size
  | .cell p v, h => (ho.cell (lt_of_cell h) (fun h => h)).trans h
theorem Holds.keep {w w' : World} (ho : Only (fun _ => False) w w') : ∀ l : List Fact, Holds l w → Holds l w'
  | [], h => h
  | f :: l, h => ⟨f.keep ho h.1, Holds.keep ho l h.2⟩
theorem stay {l : List Fact} {w w' : World} (h : Hid (Holds l w)) (ho : Only (fun _ => False) w w') : Hid (Holds l w') := Lib.hid (Holds.keep ho l h.out)
theorem less {f : Fact} {l : List Fact} {w : World} (h : Hid (Holds (f :: l) w)) : Hid (Holds l w) := Lib.hid h.out.2
theorem start (w : World) : Hid (Holds [.only (fun _ => False) w] w) := Lib.hid ⟨Only.refl _ w, trivial⟩
/-- what a call that writes to S leaves alone -/
def Fact.far (S : Nat → Prop) : Fact → Prop
  | .blk g _ _ => ¬ S g
  | .byt A n _ => 0 < n → ∀ k, k + 1 = bk A → ¬ S k
  | .sl sz A n _ => 0 < n * sz → ∀ k, k + 1 = bk A → ¬ S k
  | .mid _ _ _ A _ _ _ => ∀ k, k + 1 = bk A → ¬ S k
  | .own _ _ _ A _ _ _ => ∀ k, k + 1 = bk A → ¬ S k
  | .only S' w0 => ∀ k, k < w0.heap.size → S k → S' k
  | .below B _ => ∀ k, k < B → ¬ S k
  | .size _ => True
  | .cell p _ => ¬ S p.block
def Far (S : Nat → Prop) : List Fact → Prop
  | [] => True
  | f :: l => f.far S ∧ Far S l
theorem Fact.keepAt {S : Nat → Prop} {w w' : World} (ho : Only S w w') : ∀ f : Fact, f.far S → f.holds w → f.holds w'
  | .blk g t cs, hf, h => Blk.only h ho hf
  | .byt A n cs, hf, h => Byt.only h ho hf
  | .sl sz A n cs, hf, h => Sl.only h ho hf
  | .mid b e sz A n c cs, hf, h => Mid.only h ho hf
  | .own b e sz A n c cs, hf, h => own_only h ho hf
  | .only S' w0, hf, h => Only.trans h ho hf
  | .below B w0, hf, h => ⟨Below.put h.1 h.2 hf ho, h.2⟩
  | .size n, _, h => Nat.le_trans h ho.size
  | .cell p v, hf, h => (ho.cell (lt_of_cell h) hf).trans h
theorem Holds.keepAt {S : Nat → Prop} {w w' : World} (ho : Only S w w') : ∀ l : List Fact, Far S l → Holds l w → Holds l w'
  | [], _, h => h
  | f :: l, hf, h => ⟨f.keepAt ho hf.1 h.1, Holds.keepAt ho l hf.2 h.2⟩
theorem stayAt {S : Nat → Prop} {l : List Fact} {w w' : World} (h : Hid (Holds l w)) (ho : Only S w w') (hf : Far S l) : Hid (Holds l w') := Lib.hid (Holds.keepAt ho l hf h.out)
/-- the same of one block, in numbers -/
def Fact.farB (g : Nat) : Fact → Prop
  | .blk g' _ _ => g' ≠ g
  | .byt A n _ => n = 0 ∨ bk A ≠ g + 1
  | .sl _ A n _ => n = 0 ∨ bk A ≠ g + 1
  | .mid _ _ _ A _ _ _ => bk A ≠ g + 1
  | .own _ _ _ A _ _ _ => bk A ≠ g + 1
  | .only _ w0 => w0.heap.size ≤ g
  | .below B _ => B ≤ g
  | .size _ => True
  | .cell p _ => p.block ≠ g
def FarB (g : Nat) : List Fact → Prop
  | [] => True
  | f :: l => f.farB g ∧ FarB g l
theorem Fact.farB_far {g : Nat} : ∀ f : Fact, f.farB g → f.far (fun q => q = g)
  | .blk g' _ _, h => h
  | .byt A n _, h => fun hn k hk e => by rcases h with h | h <;> omega
  | .sl sz A n _, h => fun hn k hk e => by
    rcases h with h | h
    · subst h; omega
    · omega
  | .mid _ _ _ A _ _ _, h => fun k hk e => by have h' : bk A ≠ g + 1 := h; omega
  | .own _ _ _ A _ _ _, h => fun k hk e => by have h' : bk A ≠ g + 1 := h; omega
  | .only _ w0, h => fun k hk e => by have h' : w0.heap.size ≤ g := h; omega
  | .below B _, h => fun k hk e => by have h' : B ≤ g := h; omega
  | .size _, _ => trivial
  | .cell p _, h => h
theorem FarB.far {g : Nat} : ∀ l : List Fact, FarB g l → Far (fun q => q = g) l
  | [], h => h
  | f :: l, h => ⟨f.farB_far h.1, FarB.far l h.2⟩
theorem stayB {g : Nat} {l : List Fact} {w w' : World} (h : Hid (Holds l w)) (ho : Only (fun q => q = g) w w') (hf : FarB g l) : Hid (Holds l w') := stayAt h ho (FarB.far l hf)
section
variable {l : List Fact} {w w' : World}
/-- behind a call, and what it told -/
theorem addB {g t : Nat} {cs : Array Value} (h : Hid (Holds l w)) (ho : Only (fun _ => False) w w') (k : Blk w' g t cs) : Hid (Holds (.blk g t cs :: l) w') := Lib.hid ⟨k, (stay h ho).out⟩
theorem addY {A : Option Addr} {n : Nat} {cs : List Int} (h : Hid (Holds l w)) (ho : Only (fun _ => False) w w') (k : Byt w' A n cs) : Hid (Holds (.byt A n cs :: l) w') := Lib.hid ⟨k, (stay h ho).out⟩
theorem addS {sz : Nat} {A : Option Addr} {n : Nat} {cs : List Value} (h : Hid (Holds l w)) (ho : Only (fun _ => False) w w') (k : Sl w' sz A n cs) : Hid (Holds (.sl sz A n cs :: l) w') := Lib.hid ⟨k, (stay h ho).out⟩
theorem addM {b e sz : Nat} {A : Option Addr} {n c : Nat} {cs : List Value} (h : Hid (Holds l w)) (ho : Only (fun _ => False) w w') (k : Mid w' b e sz A n c cs) : Hid (Holds (.mid b e sz A n c cs :: l) w') := Lib.hid ⟨k, (stay h ho).out⟩
theorem addO {b e sz : Nat} {A : Option Addr} {n c : Nat} {cs : List Value} (h : Hid (Holds l w)) (ho : Only (fun _ => False) w w') (k : w'.ownsRow b e sz (.slice A n c) n cs) : Hid (Holds (.own b e sz A n c cs :: l) w') := Lib.hid ⟨k, (stay h ho).out⟩
theorem addC {p : Addr} {v : Value} (h : Hid (Holds l w)) (ho : Only (fun _ => False) w w') (k : w'.cell? p = some v) : Hid (Holds (.cell p v :: l) w') := Lib.hid ⟨k, (stay h ho).out⟩
theorem addW {S : Nat → Prop} {w0 : World} (h : Hid (Holds l w)) (ho : Only (fun _ => False) w w') (k : Only S w0 w') : Hid (Holds (.only S w0 :: l) w') := Lib.hid ⟨k, (stay h ho).out⟩
end
section
variable {w : World} {g t : Nat} {a b c d e f : Value}
theorem Blk.c1 (h : Blk w g t #[a]) : w.cell? ⟨g, 0, none⟩ = some a := h.cell 0
theorem Blk.c2 (h : Blk w g t #[a, b]) : w.cell? ⟨g, 0, none⟩ = some a ∧ w.cell? ⟨g, 1, none⟩ = some b := ⟨h.cell 0, h.cell 1⟩
theorem Blk.c3 (h : Blk w g t #[a, b, c]) : w.cell? ⟨g, 0, none⟩ = some a ∧ w.cell? ⟨g, 1, none⟩ = some b ∧ w.cell? ⟨g, 2, none⟩ = some c := ⟨h.cell 0, h.cell 1, h.cell 2⟩
theorem Blk.c4 (h : Blk w g t #[a, b, c, d]) : w.cell? ⟨g, 0, none⟩ = some a ∧ w.cell? ⟨g, 1, none⟩ = some b ∧ w.cell? ⟨g, 2, none⟩ = some c ∧ w.cell? ⟨g, 3, none⟩ = some d := ⟨h.cell 0, h.cell 1, h.cell 2, h.cell 3⟩
theorem Blk.c5 (h : Blk w g t #[a, b, c, d, e]) : w.cell? ⟨g, 0, none⟩ = some a ∧ w.cell? ⟨g, 1, none⟩ = some b ∧ w.cell? ⟨g, 2, none⟩ = some c ∧ w.cell? ⟨g, 3, none⟩ = some d ∧ w.cell? ⟨g, 4, none⟩ = some e := ⟨h.cell 0, h.cell 1, h.cell 2, h.cell 3, h.cell 4⟩
theorem Blk.c6 (h : Blk w g t #[a, b, c, d, e, f]) : w.cell? ⟨g, 0, none⟩ = some a ∧ w.cell? ⟨g, 1, none⟩ = some b ∧ w.cell? ⟨g, 2, none⟩ = some c ∧ w.cell? ⟨g, 3, none⟩ = some d ∧ w.cell? ⟨g, 4, none⟩ = some e ∧ w.cell? ⟨g, 5, none⟩ = some f := ⟨h.cell 0, h.cell 1, h.cell 2, h.cell 3, h.cell 4, h.cell 5⟩
end
/-- stores into a block of the call's own, in the walk's own form -/
theorem put3 (W : World) (rb t : Nat) (z : Array Value) (h : Blk W rb t z) (hz : z.size = 3) (x0 x1 x2 : Value) :
    ∃ V, V = ((W.setCell ⟨rb, 0, none⟩ x0).setCell ⟨rb, 1, none⟩ x1).setCell ⟨rb, 2, none⟩ x2 ∧ Blk V rb t #[x0, x1, x2] ∧ Only (fun k => k = rb) W V := by
  refine ⟨_, rfl, (((h.set_ 0 x0).set_ 1 x1).set_ 2 x2).to ?_, ((only_set W _ 0 _).then (only_set _ _ 1 _)).then (only_set _ _ 2 _)⟩
  match z, hz with
  | ⟨[a, b, c]⟩, _ => simp
theorem put4' (W : World) (rb t : Nat) (z : Array Value) (h : Blk W rb t z) (hz : z.size = 4) (x0 x1 x2 x3 : Value) :
    ∃ V, V = (((W.setCell ⟨rb, 0, none⟩ x0).setCell ⟨rb, 1, none⟩ x1).setCell ⟨rb, 2, none⟩ x2).setCell ⟨rb, 3, none⟩ x3 ∧ Blk V rb t #[x0, x1, x2, x3] ∧ Only (fun k => k = rb) W V := by
  refine ⟨_, rfl, ((((h.set_ 0 x0).set_ 1 x1).set_ 2 x2).set_ 3 x3).to ?_, (((only_set W _ 0 _).then (only_set _ _ 1 _)).then (only_set _ _ 2 _)).then (only_set _ _ 3 _)⟩
  match z, hz with
  | ⟨[a, b, c, d]⟩, _ => simp
theorem put5 (W : World) (rb t : Nat) (z : Array Value) (h : Blk W rb t z) (hz : z.size = 5) (x0 x1 x2 x3 x4 : Value) :
    ∃ V, V = ((((W.setCell ⟨rb, 0, none⟩ x0).setCell ⟨rb, 1, none⟩ x1).setCell ⟨rb, 2, none⟩ x2).setCell ⟨rb, 3, none⟩ x3).setCell ⟨rb, 4, none⟩ x4 ∧ Blk V rb t #[x0, x1, x2, x3, x4] ∧ Only (fun k => k = rb) W V := by
  refine ⟨_, rfl, (((((h.set_ 0 x0).set_ 1 x1).set_ 2 x2).set_ 3 x3).set_ 4 x4).to ?_, ((((only_set W _ 0 _).then (only_set _ _ 1 _)).then (only_set _ _ 2 _)).then (only_set _ _ 3 _)).then (only_set _ _ 4 _)⟩
  match z, hz with
  | ⟨[a, b, c, d, e]⟩, _ => simp
theorem put6 (W : World) (rb t : Nat) (z : Array Value) (h : Blk W rb t z) (hz : z.size = 6) (x0 x1 x2 x3 x4 x5 : Value) :
    ∃ V, V = (((((W.setCell ⟨rb, 0, none⟩ x0).setCell ⟨rb, 1, none⟩ x1).setCell ⟨rb, 2, none⟩ x2).setCell ⟨rb, 3, none⟩ x3).setCell ⟨rb, 4, none⟩ x4).setCell ⟨rb, 5, none⟩ x5 ∧ Blk V rb t #[x0, x1, x2, x3, x4, x5] ∧ Only (fun k => k = rb) W V := by
  refine ⟨_, rfl, ((((((h.set_ 0 x0).set_ 1 x1).set_ 2 x2).set_ 3 x3).set_ 4 x4).set_ 5 x5).to ?_, (((((only_set W _ 0 _).then (only_set _ _ 1 _)).then (only_set _ _ 2 _)).then (only_set _ _ 3 _)).then (only_set _ _ 4 _)).then (only_set _ _ 5 _)⟩
  match z, hz with
  | ⟨[a, b, c, d, e, f]⟩, _ => simp
theorem put1 (W : World) (rb t i : Nat) (z : Array Value) (h : Blk W rb t z) (x : Value) :
    ∃ V, V = W.setCell ⟨rb, i, none⟩ x ∧ Blk V rb t (z.setIfInBounds i x) ∧ Only (fun k => k = rb) W V := ⟨_, rfl, h.set_ i x, only_set W _ i _⟩
theorem put2 (W : World) (rb t i j : Nat) (z : Array Value) (h : Blk W rb t z) (x y : Value) :
    ∃ V, V = (W.setCell ⟨rb, i, none⟩ x).setCell ⟨rb, j, none⟩ y ∧ Blk V rb t ((z.setIfInBounds i x).setIfInBounds j y) ∧ Only (fun k => k = rb) W V := ⟨_, rfl, (h.set_ i x).set_ j y, (only_set W _ i _).then (only_set _ _ j _)⟩
/-- a block made, under names -/
theorem made (w : World) (n : Nat) (hn : w.heap.size = n) (t : TypeId) (cs : Array Value) : ∃ W, W = w.alloc (.cells cs t) ∧ W.heap.size = n + 1 ∧ Blk W n t cs ∧ Only (fun _ => False) w W :=
  ⟨_, rfl, by simp [hn], hn ▸ Blk.new w t cs, (Only.refl _ w).alloc _⟩
/-! ### A drawn region whose callees make memory -/
theorem regrown_only (V : World) (d : Nat) (os : Array Obj) : Only (fun _ => False) V (Sort.grow (redrawn V d) os) := (Only.of_below (below_regrown V d os)).mono (fun i hi hb => by omega)
theorem stayG {l : List Fact} {V : World} (h : Hid (Holds l V)) (d : Nat) (os : Array Obj) : Hid (Holds l (Sort.grow (redrawn V d) os)) := stay h (regrown_only V d os)
section
variable {w : World} {g t : Nat} {a b c d e f : Value}
theorem Blk.r1 (h : Blk w g t #[a]) : ∀ n os, (Sort.grow (redrawn w n) os).cell? ⟨g, 0, none⟩ = some a := cell_regrown (h.cell 0)
theorem Blk.r2 (h : Blk w g t #[a, b]) : (∀ n os, (Sort.grow (redrawn w n) os).cell? ⟨g, 0, none⟩ = some a) ∧ ∀ n os, (Sort.grow (redrawn w n) os).cell? ⟨g, 1, none⟩ = some b := ⟨cell_regrown (h.cell 0), cell_regrown (h.cell 1)⟩
theorem Blk.r3 (h : Blk w g t #[a, b, c]) : (∀ n os, (Sort.grow (redrawn w n) os).cell? ⟨g, 0, none⟩ = some a) ∧ (∀ n os, (Sort.grow (redrawn w n) os).cell? ⟨g, 1, none⟩ = some b) ∧ ∀ n os, (Sort.grow (redrawn w n) os).cell? ⟨g, 2, none⟩ = some c := ⟨cell_regrown (h.cell 0), cell_regrown (h.cell 1), cell_regrown (h.cell 2)⟩
theorem Blk.r4 (h : Blk w g t #[a, b, c, d]) : (∀ n os, (Sort.grow (redrawn w n) os).cell? ⟨g, 0, none⟩ = some a) ∧ (∀ n os, (Sort.grow (redrawn w n) os).cell? ⟨g, 1, none⟩ = some b) ∧ (∀ n os, (Sort.grow (redrawn w n) os).cell? ⟨g, 2, none⟩ = some c) ∧ ∀ n os, (Sort.grow (redrawn w n) os).cell? ⟨g, 3, none⟩ = some d := ⟨cell_regrown (h.cell 0), cell_regrown (h.cell 1), cell_regrown (h.cell 2), cell_regrown (h.cell 3)⟩
theorem Blk.r6 (h : Blk w g t #[a, b, c, d, e, f]) : (∀ n os, (Sort.grow (redrawn w n) os).cell? ⟨g, 0, none⟩ = some a) ∧ (∀ n os, (Sort.grow (redrawn w n) os).cell? ⟨g, 1, none⟩ = some b) ∧ (∀ n os, (Sort.grow (redrawn w n) os).cell? ⟨g, 2, none⟩ = some c) ∧ (∀ n os, (Sort.grow (redrawn w n) os).cell? ⟨g, 3, none⟩ = some d) ∧ (∀ n os, (Sort.grow (redrawn w n) os).cell? ⟨g, 4, none⟩ = some e) ∧ ∀ n os, (Sort.grow (redrawn w n) os).cell? ⟨g, 5, none⟩ = some f := ⟨cell_regrown (h.cell 0), cell_regrown (h.cell 1), cell_regrown (h.cell 2), cell_regrown (h.cell 3), cell_regrown (h.cell 4), cell_regrown (h.cell 5)⟩
end
end Go.Proofs.YtpdhoojjcgohpaaGreat

namespace Go.Proofs.YtpdhoojjcgohpaaGreat
set_option maxRecDepth 4000
open Go.RowKit
set_option linter.unusedVariables false

theorem eye_numx (g : Nat) (A : Option Addr) (n c : Nat) (cs : List Int) (k : Nat) (x : Int) (m : Nat) (ds : List Int) (w : World) (h : Ey w g A n c cs) (hk : k ≤ n) (hk0 : 0 < k) (hk8 : k ≤ 8)
    (hx : numV (cs.take k) = x) (hd : cs.drop k = ds) (hm : n - k = m) :
    Calls Tryz.prog 77 #[.pointer (some ⟨g, 0, none⟩), .int .i64 k] w fun e w' => e = .returned (.int .u64 x) ∧ ∃ A' d, Ey w' g A' m d ds ∧ (0 < m → bk A' = bk A) ∧ Only (fun q => q = g) w w' := by
  refine (eye_num g A n c cs k w h hk hk0 hk8).mono ?_
  subst hx hd hm
  rintro e w' ⟨rfl, A', h1, h3, h2⟩
  exact ⟨rfl, A', _, h1, h3, h2⟩
theorem eye_skip (g : Nat) (A : Option Addr) (n c : Nat) (cs : List Int) (k m : Nat) (ds : List Int) (w : World) (h : Ey w g A n c cs) (hk : k ≤ n) (hn : n ≤ 100000)
    (hd : cs.drop k = ds) (hm : n - k = m) :
    Calls Tryz.prog 78 #[.pointer (some ⟨g, 0, none⟩), .int .i64 k] w fun e w' => (∃ B cb, e = .returned (.slice B k cb)) ∧ ∃ A' d, Ey w' g A' m d ds ∧ (0 < m → bk A' = bk A) ∧ Only (fun q => q = g) w w' := by
  refine (eye_bytes g A n c cs k w h hk hn).mono ?_
  subst hd hm
  rintro e w' ⟨A', B, cb, rfl, _, _, h1, h3, h2⟩
  exact ⟨⟨B, cb, rfl⟩, A', _, h1, h3, h2⟩
/-- the rest of an eye: bytes of the call's own -/
theorem eye_last (g : Nat) (A : Option Addr) (n c : Nat) (cs : List Int) (w : World) (h : Ey w g A n c cs) (hn : n ≤ 100000) :
    Calls Tryz.prog 78 #[.pointer (some ⟨g, 0, none⟩), .int .i64 n] w fun e w' => ∃ B cb, e = .returned (.slice B n cb) ∧ Mid w' w.heap.size 5 1 B n cb (u8s cs) ∧ AllB cs ∧ Only (fun q => q = g) w w' := by
  refine (eye_bytes g A n c cs n w h (Nat.le_refl _) hn).mono ?_
  have e : cs.take n = cs := List.take_of_length_le (by rw [h.byt.len]; exact Nat.le_refl _)
  rintro e1 w' ⟨A', B, cb, rfl, h1, h2, _, _, h3⟩
  rw [e] at h1 h2
  exact ⟨B, cb, rfl, h1, h2, h3⟩
theorem numV_one (x : Int) : numV [x] = x := by simp [numV]
theorem num1 {cs : List Int} (i : Nat) (h : i < cs.length) : numV ((cs.drop i).take 1) = gb cs i := by
  have e : (cs.drop i).take 1 = [gb cs i] := by
    rw [List.drop_eq_getElem_cons h, gb_getElem h]; rfl
  rw [e, numV_one]
theorem pow256_le {a : Nat} : ∀ k : Nat, a ≤ k → (256 : Int) ^ a ≤ 256 ^ k
  | 0, h => by obtain rfl : a = 0 := by omega
               exact Int.le_refl _
  | k + 1, h => by
    by_cases e : a = k + 1
    · subst e; exact Int.le_refl _
    · have h1 := pow256_le k (show a ≤ k by omega)
      have h2 : (0 : Int) < 256 ^ k := Int.pow_pos (by decide)
      rw [Int.pow_succ]
      omega
/-- a number of k bytes is below 256^k -/
theorem num_bd {cs : List Int} (hb : AllB cs) (i k : Nat) (m : Int) (hm : (256 : Int) ^ k = m) : 0 ≤ numV ((cs.drop i).take k) ∧ numV ((cs.drop i).take k) < m := by
  have h := numV_bd ((hb.drop i).take_mem k)
  have hl : ((cs.drop i).take k).length ≤ k := List.length_take_le _ _
  have hp : (256 : Int) ^ ((cs.drop i).take k).length ≤ 256 ^ k := pow256_le k hl
  omega
theorem codes_extract (s : ByteArray) (a b : Nat) : codes (s.extract a b) = ((codes s).drop a).take (b - a) := by
  unfold codes
  rw [ByteArray.data_extract, Array.toList_extract, List.extract_eq_take_drop, List.map_take, List.map_drop]
theorem extract_end (s : ByteArray) (a : Nat) : s.extract a s.size = strOfNums ((codes s).drop a) := by
  apply codes_inj
  rw [codes_extract, codes_str ((codes_bd s).drop a)]
  exact List.take_of_length_le (by rw [List.length_drop, codes_len]; omega)
theorem put_fit {n : Int} {k : Nat} (h0 : 0 ≤ n) (h : fits n k) : putS n k = strOfNums (lo n k) ∧ putE n k = 0 := by
  have := (fits_div h0 k).1 h
  unfold putS putE
  rw [if_pos this, if_pos this]
  exact ⟨rfl, rfl⟩
theorem put_unfit {n : Int} {k : Nat} (h0 : 0 ≤ n) (h : ¬ fits n k) : putS n k = ByteArray.empty ∧ putE n k = 1 := by
  have := mt (fits_div h0 k).2 h
  unfold putS putE
  rw [if_neg this, if_neg this]
  exact ⟨rfl, rfl⟩
/-- the reference's P of a number that fits -/
theorem rp_fit (n : Int) (k : Nat) (w : World) (h0 : 0 ≤ n) (h : fits n k) (h1 : n < 18446744073709551616) (hk : 0 < k) (hk8 : k ≤ 8) :
    Calls Tryz.prog 43 #[.int .u64 n, .int .i64 k] w fun e w' => e = .returned (.string (strOfNums (lo n k))) ∧ Only (fun _ => False) w w' := by
  have := rp_any n k w h0 h1 hk hk8
  rwa [(put_fit h0 h).1] at this
theorem lo_size (n : Int) (k : Nat) : (strOfNums (lo n k)).size = k := by rw [str_size, lo_len]
end Go.Proofs.YtpdhoojjcgohpaaGreat

namespace Go.Proofs.YtpdhoojjcgohpaaGreat
set_option maxRecDepth 4000
open Go.RowKit Go.Sort
set_option linter.unusedVariables false

instance (t f : Int) : Decidable (headOk t f) := by unfold headOk fits; infer_instance
def headS (t f ty : Int) : ByteArray := if headOk t f then strOfNums (headB t f ty) else ByteArray.empty
def headE (t f : Int) : Int := if headOk t f then 0 else 1
theorem strs3 (t f ty : Int) : strOfNums (lo t 6) ++ strOfNums (lo f 6) ++ strOfNums (lo ty 2) = strOfNums (headB t f ty) := by
  rw [strs_app, strs_app]
  simp [headB]
set_option maxHeartbeats 1000000 in
theorem erh_any (t f ty : Int) (s : ByteArray) (w : World) (h : PkB t f ty) :
    Calls Tryz.prog 47 #[.agg #[.int .u64 t, .int .u64 f, .int .u16 ty, .string s]] w fun e w' => e = .returned (.tuple #[.string (headS t f ty), .int .i64 (headE t f)]) ∧ Only (fun _ => False) w w' := by
  have H := Lib.hid h
  have y0 := h.y0
  have y1 := h.y1
  have hy : fits ty 2 := by show ty < 65536; exact y1
  have R1 := fun w => rput_any t 6 w h.t0 h.t1 (by decide) (by decide)
  have R2 := fun w => rput_any f 6 w h.f0 h.f1 (by decide) (by decide)
  have R3 := fun w => rp_any ty 2 w h.y0 (by omega) (by decide) (by decide)
  rw [(put_fit h.y0 hy).1] at R3
  have hnew := Blk.new w 68 #[.int .u64 t, .int .u64 f, .int .u16 ty, .string s]
  have HN := Lib.hid hnew
  have ho0 := (Only.refl (fun _ => False) w).alloc (.cells #[.int .u64 t, .int .u64 f, .int .u16 ty, .string s] 68)
  have HO0 := Lib.hid ho0
  have hcase : (headOk t f ∧ putS t 6 = strOfNums (lo t 6) ∧ putE t 6 = 0 ∧ putS f 6 = strOfNums (lo f 6) ∧ putE f 6 = 0 ∧ headS t f ty = strOfNums (headB t f ty) ∧ headE t f = 0) ∨
      (¬ headOk t f ∧ (putE t 6 = 1 ∨ putE t 6 = 0 ∧ putE f 6 = 1) ∧ headS t f ty = ByteArray.empty ∧ headE t f = 1) := by
    by_cases h1 : fits t 6
    · by_cases h2 : fits f 6
      · left
        have hk : headOk t f := ⟨h1, h2⟩
        exact ⟨hk, (put_fit h.t0 h1).1, (put_fit h.t0 h1).2, (put_fit h.f0 h2).1, (put_fit h.f0 h2).2, if_pos hk, if_pos hk⟩
      · right
        have hk : ¬ headOk t f := fun h => h2 h.2
        exact ⟨hk, .inr ⟨(put_fit h.t0 h1).2, (put_unfit h.f0 h2).2⟩, if_neg hk, if_neg hk⟩
    · right
      have hk : ¬ headOk t f := fun h => h1 h.1
      exact ⟨hk, .inl (put_unfit h.t0 h1).2, if_neg hk, if_neg hk⟩
  have z1 : (strOfNums (lo t 6)).size = 6 := by rw [str_size, lo_len]
  have z2 : (strOfNums (lo f 6)).size = 6 := by rw [str_size, lo_len]
  have z3 : (strOfNums (lo ty 2)).size = 2 := by rw [str_size, lo_len]
  have z4 : (strOfNums (lo t 6) ++ strOfNums (lo f 6)).size = 12 := by rw [ByteArray.size_append, z1, z2]
  have h3 := strs3 t f ty
  generalize headS t f ty = hs at *
  generalize headE t f = he at *
  generalize strOfNums (headB t f ty) = hh at *
  have H3 := Lib.hid h3
  clear h h3 hnew ho0
  rcases hcase with ⟨hk, e1, e2, e3, e4, e5, e6⟩ | ⟨hk, hbad, e5, e6⟩
  · rw [e1, e2] at R1
    rw [e3, e4] at R2
    subst e5 e6
    clear e1 e2 e3 e4
    go_enter Tryz.func47, Tryz.ntmps47
    go_wp2_with (fail)
    refine (R1 _).mono ?_
    rintro e w1 ⟨rfl, ho1⟩
    have O1 := Lib.hid (HO0.out.then ho1)
    have hb1 := HN.out.only ho1 (fun h => h)
    have d1 : w1.cell? ⟨w.heap.size, 1, none⟩ = some (.int .u64 f) := hb1.cell 1
    have B1 := Lib.hid hb1
    clear ho1 hb1
    go_wp2_with (fail)
    refine (R2 _).mono ?_
    rintro e w2 ⟨rfl, ho2⟩
    have O2 := Lib.hid (O1.out.then ho2)
    have hb2 := B1.out.only ho2 (fun h => h)
    have d2 : w2.cell? ⟨w.heap.size, 2, none⟩ = some (.int .u16 ty) := hb2.cell 2
    clear ho2 hb2 d1
    go_wp2_with (fail)
    refine (R3 _).mono ?_
    rintro e w3 ⟨rfl, ho3⟩
    have O3 := Lib.hid (O2.out.then ho3)
    clear ho3 d2
    go_wp2_with (fail)
    go_ret2
    exact ⟨by rw [← H3.out]; rfl, O3.out⟩
  · subst e5 e6
    go_enter Tryz.func47, Tryz.ntmps47
    go_wp2_with (fail)
    refine (R1 _).mono ?_
    rintro e w1 ⟨rfl, ho1⟩
    have O1 := Lib.hid (HO0.out.then ho1)
    have hb1 := HN.out.only ho1 (fun h => h)
    have d1 : w1.cell? ⟨w.heap.size, 1, none⟩ = some (.int .u64 f) := hb1.cell 1
    clear ho1 hb1
    go_wp2_with (fail)
    refine (R2 _).mono ?_
    rintro e w2 ⟨rfl, ho2⟩
    have O2 := Lib.hid (O1.out.then ho2)
    clear ho2 d1
    generalize putE t 6 = x1 at *
    generalize putE f 6 = x2 at *
    rcases hbad with rfl | ⟨rfl, rfl⟩
    · go_wp2_with (fail)
      go_ret2
      exact ⟨rfl, O2.out⟩
    · go_wp2_with (fail)
      go_ret2
      exact ⟨rfl, O2.out⟩
def ebS (t f ty : Int) (s : ByteArray) : ByteArray := if headOk t f ∧ 14 + s.size ≤ 1024 then strOfNums (headB t f ty) ++ s else ByteArray.empty
def ebE (t f : Int) (s : ByteArray) : Int := if headOk t f then (if 14 + s.size ≤ 1024 then 0 else 2) else 1
set_option maxHeartbeats 1000000 in
theorem erb_any (t f ty : Int) (s : ByteArray) (w : World) (h : PkB t f ty) (hs : s.size ≤ 100000) :
    Calls Tryz.prog 27 #[.agg #[.int .u64 t, .int .u64 f, .int .u16 ty, .string s]] w fun e w' => e = .returned (.tuple #[.string (ebS t f ty s), .int .i64 (ebE t f s)]) ∧ Only (fun _ => False) w w' := by
  have R1 := fun w => erh_any t f ty s w h
  have hnew := Blk.new w 68 #[.int .u64 t, .int .u64 f, .int .u16 ty, .string s]
  have HN := Lib.hid hnew
  have ho0 := (Only.refl (fun _ => False) w).alloc (.cells #[.int .u64 t, .int .u64 f, .int .u16 ty, .string s] 68)
  have HO0 := Lib.hid ho0
  have z1 : (strOfNums (headB t f ty)).size = 14 := by rw [str_size, headB_len]
  clear h hnew ho0
  by_cases hk : headOk t f
  · have e1 : headS t f ty = strOfNums (headB t f ty) := if_pos hk
    have e2 : headE t f = 0 := if_pos hk
    rw [e1, e2] at R1
    clear e1 e2
    by_cases hl : 14 + s.size ≤ 1024
    · have e3 : ebS t f ty s = strOfNums (headB t f ty) ++ s := if_pos ⟨hk, hl⟩
      have e4 : ebE t f s = 0 := by unfold ebE; rw [if_pos hk, if_pos hl]
      rw [e3, e4]
      generalize strOfNums (headB t f ty) = hh at *
      have hl2 : (14 : Int) + s.size ≤ 1024 := by omega
      clear e3 e4 hk
      go_enter Tryz.func27, Tryz.ntmps27
      go_wp2_with (fail)
      refine (R1 _).mono ?_
      rintro e w1 ⟨rfl, ho1⟩
      have O1 := Lib.hid (HO0.out.then ho1)
      have d3 : w1.cell? ⟨w.heap.size, 3, none⟩ = some (.string s) := (HN.out.only ho1 (fun h => h)).cell 3
      clear ho1
      go_wp2_with (fail)
      go_ret2
      exact ⟨rfl, O1.out⟩
    · have e3 : ebS t f ty s = ByteArray.empty := if_neg (fun h => hl h.2)
      have e4 : ebE t f s = 2 := by unfold ebE; rw [if_pos hk, if_neg hl]
      rw [e3, e4]
      generalize strOfNums (headB t f ty) = hh at *
      have hl2 : (1024 : Int) < 14 + s.size := by omega
      clear e3 e4 hk
      go_enter Tryz.func27, Tryz.ntmps27
      go_wp2_with (fail)
      refine (R1 _).mono ?_
      rintro e w1 ⟨rfl, ho1⟩
      have O1 := Lib.hid (HO0.out.then ho1)
      have d3 : w1.cell? ⟨w.heap.size, 3, none⟩ = some (.string s) := (HN.out.only ho1 (fun h => h)).cell 3
      clear ho1
      go_wp2_with (fail)
      go_ret2
      exact ⟨rfl, O1.out⟩
  · have e1 : headS t f ty = ByteArray.empty := if_neg hk
    have e2 : headE t f = 1 := if_neg hk
    have e3 : ebS t f ty s = ByteArray.empty := if_neg (fun h => hk h.1)
    have e4 : ebE t f s = 1 := if_neg hk
    rw [e1, e2] at R1
    rw [e3, e4]
    clear e1 e2 e3 e4 hk
    go_enter Tryz.func27, Tryz.ntmps27
    go_wp2_with (fail)
    refine (R1 _).mono ?_
    rintro e w1 ⟨rfl, ho1⟩
    have O1 := Lib.hid (HO0.out.then ho1)
    clear ho1
    go_wp2_with (fail)
    go_ret2
    exact ⟨rfl, O1.out⟩
/-- what a packet's bytes tell -/
def pkA (cs : List Int) (v : Value) : Value := .agg #[.int .u64 (numV (cs.take 6)), .int .u64 (numV ((cs.drop 6).take 6)), .int .u16 (numV ((cs.drop 12).take 2)), v]
def ERParsePost (w : World) (s : ByteArray) (e : Ending) (w' : World) : Prop :=
  Only (fun _ => False) w w' ∧ ((14 ≤ s.size ∧ s.size ≤ 1024 ∧ e = .returned (.tuple #[pkA (codes s) (.string (s.extract 14 s.size)), .int .i64 0])) ∨ (1024 < s.size ∧ e = .returned (.tuple #[.agg #[.int .u64 0, .int .u64 0, .int .u16 0, .string ByteArray.empty], .int .i64 2])) ∨ (s.size < 14 ∧ e = .returned (.tuple #[.agg #[.int .u64 0, .int .u64 0, .int .u16 0, .string ByteArray.empty], .int .i64 50])))
set_option maxRecDepth 100000 in
set_option maxHeartbeats 2000000 in
theorem rparse_any (s : ByteArray) (w : World) (hs : s.size ≤ 100000) : Calls Tryz.prog 61 #[.string s] w (ERParsePost w s) := by
  by_cases h1 : 1024 < s.size
  · go_enter Tryz.func61, Tryz.ntmps61
    go_wp2_with (fail)
    exact bodyPost_ret (v := .tuple #[.agg #[.int .u64 0, .int .u64 0, .int .u16 0, .string ByteArray.empty], .int .i64 2]) (by simp [results, Tryz.results61, go_sem]; rfl) rfl ⟨(Only.refl _ w).alloc _, .inr (.inl ⟨h1, rfl⟩)⟩
  by_cases h2 : s.size < 14
  · go_enter Tryz.func61, Tryz.ntmps61
    go_wp2_with (fail)
    exact bodyPost_ret (v := .tuple #[.agg #[.int .u64 0, .int .u64 0, .int .u16 0, .string ByteArray.empty], .int .i64 50]) (by simp [results, Tryz.results61, go_sem]; rfl) rfl ⟨(Only.refl _ w).alloc _, .inr (.inr ⟨h2, rfl⟩)⟩
  have c1 : codes (s.extract 0 6) = (codes s).take 6 := by rw [codes_extract]; simp
  have c2 : codes (s.extract 6 12) = ((codes s).drop 6).take 6 := codes_extract s 6 12
  have c3 : codes (s.extract 12 14) = ((codes s).drop 12).take 2 := codes_extract s 12 14
  have R1 := fun w => rnum_any (s.extract 0 6) w (by rw [ByteArray.size_extract]; omega)
  have R2 := fun w => rnum_any (s.extract 6 12) w (by rw [ByteArray.size_extract]; omega)
  have R3 := fun w => rnum_any (s.extract 12 14) w (by rw [ByteArray.size_extract]; omega)
  rw [c1] at R1
  rw [c2] at R2
  rw [c3] at R3
  clear c1 c2 c3
  unfold ERParsePost pkA
  have hq1 := numV_bd (((codes_bd s).drop 12).take_mem 2)
  have hl1 : (((codes s).drop 12).take 2).length ≤ 2 := List.length_take_le _ _
  have hp : (256 : Int) ^ (((codes s).drop 12).take 2).length ≤ 65536 := by
    rcases (by omega : (((codes s).drop 12).take 2).length = 0 ∨ (((codes s).drop 12).take 2).length = 1 ∨ (((codes s).drop 12).take 2).length = 2) with h | h | h <;> rw [h] <;> decide
  have hy0 : 0 ≤ numV (((codes s).drop 12).take 2) := hq1.1
  have hy1 : numV (((codes s).drop 12).take 2) < 65536 := by omega
  clear hq1 hl1 hp
  generalize numV (((codes s).drop 12).take 2) = ty at *
  generalize numV ((codes s).take 6) = x1 at *
  generalize numV (((codes s).drop 6).take 6) = x2 at *
  have m1 : IntKind.u16.wrap ty = ty := by rw [IntKind.wrap_u16]; omega
  have b6 : (6 : Int) ≤ s.size := by omega
  have b12 : (12 : Int) ≤ s.size := by omega
  have b14 : (14 : Int) ≤ s.size := by omega
  go_enter Tryz.func61, Tryz.ntmps61
  go_wp2_with (fail)
  refine still_tail 13 (by kernel_rfl) (by kernel_rfl) ?_; simp only [List.take_succ_cons, List.take_zero, List.drop_succ_cons, List.drop_zero]
  still_step
  still_step
  still_call ((R1 _).mono fun e w' h => ⟨h.1, h.2.symm⟩)
  still_step
  still_step
  still_call ((R2 _).mono fun e w' h => ⟨h.1, h.2.symm⟩)
  still_step
  still_step
  still_call ((R3 _).mono fun e w' h => ⟨h.1, h.2.symm⟩)
  repeat still_step
  refine wpStill_nil ?_
  go_wp2_with (fail)
  exact bodyPost_ret (v := .tuple #[.agg #[.int .u64 x1, .int .u64 x2, .int .u16 ty, .string (s.extract 14 s.size)], .int .i64 0]) (by simp [results, Tryz.results61, go_sem]) rfl ⟨((Only.refl _ w).alloc _).drew, .inl ⟨by omega, by omega, rfl⟩⟩

/-! ### The statements' own -/
def EOfPost (w : World) (t f ty : Int) (s : ByteArray) (e : Ending) (w' : World) : Prop :=
  ∃ A c, e = .returned (.agg #[.int .u64 t, .int .u64 f, .int .u16 ty, .slice A s.size c]) ∧ Byt w' A s.size (codes s) ∧ s.size ≤ c ∧ c ≤ maxLen ∧ Only (fun _ => False) w w'
def forB (to_ mac : Int) : Bool := decide (to_ = mac) || decide (to_ = 281474976710655)
theorem forme_any (mac ip t f ty : Int) (A : Option Addr) (n c : Nat) (w : World) :
    Calls Tryz.prog 49 #[.agg #[.int .u64 mac, .int .u32 ip], .agg #[.int .u64 t, .int .u64 f, .int .u16 ty, .slice A n c]] w fun e w' => e = .returned (.bool (forB t mac)) ∧ Only (fun _ => False) w w' := by
  unfold forB
  by_cases h1 : t = mac
  · subst h1
    rw [decide_eq_true (rfl : t = t)]
    go_enter Tryz.func49, Tryz.ntmps49
    go_wp2_with (fail)
    go_ret
    exact ⟨rfl, ((Only.refl _ w).alloc _).alloc _⟩
  · rw [decide_eq_false h1]
    have k1 : (t == mac) = false := by simpa using h1
    by_cases h2 : t = 281474976710655
    · rw [decide_eq_true h2]
      have k2 : (t == 281474976710655) = true := by simpa using h2
      clear h1 h2
      go_enter Tryz.func49, Tryz.ntmps49
      go_wp2_with (fail)
      go_ret
      exact ⟨rfl, ((Only.refl _ w).alloc _).alloc _⟩
    · rw [decide_eq_false h2]
      have k2 : (t == 281474976710655) = false := by simpa using h2
      clear h1 h2
      go_enter Tryz.func49, Tryz.ntmps49
      go_wp2_with (fail)
      go_ret
      exact ⟨rfl, ((Only.refl _ w).alloc _).alloc _⟩
end Go.Proofs.YtpdhoojjcgohpaaGreat

namespace Go.Proofs.YtpdhoojjcgohpaaGreat
set_option maxRecDepth 4000
open Go.RowKit Go.Sort
set_option linter.unusedVariables false

def HeadU (w : World) (t f ty : Int) (e : Ending) (w' : World) : Prop :=
  ∃ A n c cs, e = .returned (.tuple #[.slice A n c, .int .i64 (headE t f)]) ∧ Byt w' A n cs ∧ n ≤ c ∧ strOfNums cs = headS t f ty ∧ (n = if headOk t f then 14 else 0) ∧ Only (fun _ => False) w w'
theorem eh_u (t f ty : Int) (A : Option Addr) (m c : Nat) (w : World) (h : PkB t f ty) :
    Calls Tryz.prog 74 #[.agg #[.int .u64 t, .int .u64 f, .int .u16 ty, .slice A m c]] w (HeadU w t f ty) := by
  refine (eh_any t f ty A m c w h).mono ?_
  rintro e w1 (⟨hk, A', c', rfl, hob⟩ | ⟨hk, rfl, ho⟩)
  · exact ⟨A', 14, c', _, by unfold headE; rw [if_pos hk], hob.byt, hob.mid.le, by unfold headS; rw [if_pos hk], by rw [if_pos hk], hob.only⟩
  · exact ⟨none, 0, 0, [], by unfold headE; rw [if_neg hk], Byt.zero _ _, Nat.le_refl _, by unfold headS; rw [if_neg hk]; rfl, by rw [if_neg hk], ho⟩
def EBU (w : World) (t f ty : Int) (s : ByteArray) (e : Ending) (w' : World) : Prop :=
  ∃ A n c cs, e = .returned (.tuple #[.slice A n c, .int .i64 (ebE t f s)]) ∧ Byt w' A n cs ∧ n ≤ c ∧ c ≤ maxLen ∧ strOfNums cs = ebS t f ty s ∧ n ≤ 1024 ∧ Only (fun _ => False) w w'
theorem ebytes_u (t f ty : Int) (A : Option Addr) (c : Nat) (s : ByteArray) (w : World) (h : PkB t f ty) (hb : Byt w A s.size (codes s)) (hm : s.size ≤ 100000) :
    Calls Tryz.prog 51 #[.agg #[.int .u64 t, .int .u64 f, .int .u16 ty, .slice A s.size c]] w (EBU w t f ty s) := by
  refine (ebytes_any t f ty A s.size c (codes s) w h hb hm).mono ?_
  rintro e w1 (⟨hk, hl, A', c', rfl, hob⟩ | ⟨hk, rfl, ho⟩ | ⟨hk, hl, rfl, ho⟩)
  · exact ⟨A', 14 + s.size, c', _, by unfold ebE; rw [if_pos hk, if_pos hl], hob.byt, hob.mid.le, hob.mid.cm, by unfold ebS; rw [if_pos ⟨hk, hl⟩, ← strs_app, str_codes], hl, hob.only⟩
  · exact ⟨none, 0, 0, [], by unfold ebE; rw [if_neg hk], Byt.zero _ _, Nat.le_refl _, Nat.zero_le _, by unfold ebS; rw [if_neg (fun h => hk h.1)]; rfl, by omega, ho⟩
  · exact ⟨none, 0, 0, [], by unfold ebE; rw [if_pos hk, if_neg (by omega)], Byt.zero _ _, Nat.le_refl _, Nat.zero_le _, by unfold ebS; rw [if_neg (fun h => by have := h.2; omega)]; rfl, by omega, ho⟩
/-- what is parsed -/
structure Pd where
  a : Int
  b : Int
  c : Int
  l : List Int
  d : Int
def pF (cs : List Int) : Pd := if 1024 < cs.length then ⟨0, 0, 0, [], 2⟩ else if cs.length < 14 then ⟨0, 0, 0, [], 50⟩ else ⟨numV (cs.take 6), numV ((cs.drop 6).take 6), numV ((cs.drop 12).take 2), cs.drop 14, 0⟩
theorem pF_big {cs : List Int} (h : 1024 < cs.length) : pF cs = ⟨0, 0, 0, [], 2⟩ := if_pos h
theorem pF_small {cs : List Int} (h : cs.length < 14) : pF cs = ⟨0, 0, 0, [], 50⟩ := by unfold pF; rw [if_neg (by omega), if_pos h]
theorem pF_ok {cs : List Int} (h : 14 ≤ cs.length) (h2 : cs.length ≤ 1024) : pF cs = ⟨numV (cs.take 6), numV ((cs.drop 6).take 6), numV ((cs.drop 12).take 2), cs.drop 14, 0⟩ := by unfold pF; rw [if_neg (by omega), if_neg (by omega)]
def ParseU (w : World) (p : Pd) (e : Ending) (w' : World) : Prop :=
  ∃ B cb, e = .returned (.tuple #[.agg #[.int .u64 p.a, .int .u64 p.b, .int .u16 p.c, .slice B p.l.length cb], .int .i64 p.d]) ∧ Byt w' B p.l.length p.l ∧ p.l.length ≤ cb ∧ cb ≤ maxLen ∧ (0 < p.l.length → w.heap.size < bk B) ∧ Only (fun _ => False) w w'
theorem eparse_u (A : Option Addr) (n c : Nat) (cs : List Int) (w : World) (hb : Byt w A n cs) (hn : n ≤ 100000) :
    Calls Tryz.prog 48 #[.slice A n c] w (ParseU w (pF cs)) := by
  have hl := hb.len
  refine (eparse_any A n c cs w hb hn).mono ?_
  rintro e w1 (⟨h1, h2, B, cb, rfl, hob⟩ | ⟨h1, rfl, ho⟩ | ⟨h1, rfl, ho⟩)
  · rw [pF_ok (by omega) (by omega)]
    have hlen : (cs.drop 14).length = n - 14 := by rw [List.length_drop, hl]
    refine ⟨B, cb, by rw [hlen], ?_, ?_, hob.mid.cm, fun h0 => by
      simp only [hlen] at h0
      by_cases hz : 0 < bk B
      · have := hob.mid.lo hz; omega
      · have := hob.mid.sl.lt (by omega); omega, hob.only⟩
    · simp only [hlen]; exact hob.byt
    · simp only [hlen]; exact hob.mid.le
  · rw [pF_big (by omega)]
    exact ⟨none, 0, rfl, Byt.zero _ _, Nat.le_refl _, Nat.zero_le _, fun h => absurd h (Nat.lt_irrefl 0), ho⟩
  · rw [pF_small (by omega)]
    exact ⟨none, 0, rfl, Byt.zero _ _, Nat.le_refl _, Nat.zero_le _, fun h => absurd h (Nat.lt_irrefl 0), ho⟩
def rpk (p : Pd) : Value := .agg #[.int .u64 p.a, .int .u64 p.b, .int .u16 p.c, .string (strOfNums p.l)]
theorem rparse_u (s : ByteArray) (w : World) (hs : s.size ≤ 100000) : Calls Tryz.prog 61 #[.string s] w fun e w' => e = .returned (.tuple #[rpk (pF (codes s)), .int .i64 (pF (codes s)).d]) ∧ Only (fun _ => False) w w' := by
  have hl := codes_len s
  refine (rparse_any s w hs).mono ?_
  rintro e w1 ⟨ho, ⟨h1, h2, rfl⟩ | ⟨h1, rfl⟩ | ⟨h1, rfl⟩⟩
  · rw [pF_ok (by omega) (by omega)]
    have e : s.extract 14 s.size = strOfNums ((codes s).drop 14) := by
      apply codes_inj
      rw [codes_extract, codes_str ((codes_bd s).drop 14)]
      exact List.take_of_length_le (by rw [List.length_drop, hl]; exact Nat.le_refl _)
    exact ⟨by rw [e]; rfl, ho⟩
  · rw [pF_big (by omega)]
    exact ⟨rfl, ho⟩
  · rw [pF_small (by omega)]
    exact ⟨rfl, ho⟩
theorem u64_bd {n : Int} (hw : (Lit.int .u64 n).wf = true) : 0 ≤ n ∧ n < 18446744073709551616 := by
  have hk : IntKind.u64.min ≤ n ∧ n ≤ IntKind.u64.max := by simpa [Lit.wf] using hw
  have e1 : IntKind.u64.min = 0 := by decide
  have e2 : IntKind.u64.max = 18446744073709551615 := by decide
  omega
theorem u32_bd {n : Int} (hw : (Lit.int .u32 n).wf = true) : 0 ≤ n ∧ n < 4294967296 := by
  have hk : IntKind.u32.min ≤ n ∧ n ≤ IntKind.u32.max := by simpa [Lit.wf] using hw
  have e1 : IntKind.u32.min = 0 := by decide
  have e2 : IntKind.u32.max = 4294967295 := by decide
  omega
theorem u16_bd {n : Int} (hw : (Lit.int .u16 n).wf = true) : 0 ≤ n ∧ n < 65536 := by
  have hk : IntKind.u16.min ≤ n ∧ n ≤ IntKind.u16.max := by simpa [Lit.wf] using hw
  have e1 : IntKind.u16.min = 0 := by decide
  have e2 : IntKind.u16.max = 65535 := by decide
  omega
theorem seen_pk {w : World} {v : Value} (s : Seen w 68 v) : ∃ t f ty s, v = .agg #[.int .u64 t, .int .u64 f, .int .u16 ty, .string s] ∧ PkB t f ty ∧ s.size ≤ maxLen := by
  obtain ⟨cs, rfl, hr⟩ := s.struct Tryz.underlying68
  obtain ⟨hl, hf⟩ := hr.struct Tryz.underlying68
  have hc : Tryz.prog.cellsOf 68 = 4 := by kernel_rfl
  rw [hc] at hl
  obtain ⟨x0, x1, x2, x3, hx⟩ : ∃ x0 x1 x2 x3, cs.toList = [x0, x1, x2, x3] := by
    match h : cs.toList, hl with
    | [a, b, c, d], _ => exact ⟨a, b, c, d, rfl⟩
  rw [hx] at hf
  have f0 : Reads w 22 [x0] := hf 0 _ rfl
  have f1 : Reads w 22 [x1] := hf 1 _ rfl
  have f2 : Reads w 26 [x2] := hf 2 _ rfl
  have f3 : Reads w 9 [x3] := hf 3 _ rfl
  obtain ⟨n0, e0, w0⟩ := f0.int (k := .u64) Tryz.underlying22
  obtain ⟨n1, e1, w1⟩ := f1.int (k := .u64) Tryz.underlying22
  obtain ⟨n2, e2, w2⟩ := f2.int (k := .u16) Tryz.underlying26
  obtain ⟨n3, e3, w3⟩ := f3.str Tryz.underlying9
  simp only [List.cons.injEq, and_true] at e0 e1 e2 e3
  subst e0 e1 e2 e3
  refine ⟨n0, n1, n2, n3, ?_, ⟨(u64_bd w0).1, (u64_bd w0).2, (u64_bd w1).1, (u64_bd w1).2, (u16_bd w2).1, (u16_bd w2).2⟩, w3⟩
  congr 1
  apply Array.ext'
  exact hx
theorem eq_pk (w : World) (a b c : Int) (s : ByteArray) : (binOp .eql 68 (.agg #[.int .u64 a, .int .u64 b, .int .u16 c, .string s]) (.agg #[.int .u64 a, .int .u64 b, .int .u16 c, .string s])).run Tryz.prog w = .ok (.bool true) w := by
  have h1 : Tryz.prog.stoodInHeld 68 = false := by kernel_rfl
  simp [go_sem, h1]
end Go.Proofs.YtpdhoojjcgohpaaGreat

namespace Go.Proofs.YtpdhoojjcgohpaaGreat
set_option maxRecDepth 4000
set_option linter.unusedVariables false
open Ieee

def fb (z : Int) : Nat := FloatKind.f64.nearest z
/-- word x stands for the whole number z -/
def Rd (x : Nat) (z : Int) : Prop := ∃ k : Nat, double.read x = .number (decide (z < 0)) (z.natAbs * 2 ^ k) (-(k : Int))

theorem cut_exact (way : Toward) (s : Bool) (n d : Nat) : way.cut s (n * 2 ^ d) d = n := by
  rcases Nat.eq_zero_or_pos n with rfl | hn
  · have h0 : (0 : Nat) < 1 <<< min d (Nat.log2 0 + 2) := by rw [Nat.one_shiftLeft]; exact Nat.two_pow_pos _
    unfold Toward.cut
    simp only [Nat.zero_mul, Nat.zero_div, Nat.zero_mod, Nat.mul_zero]
    cases way <;> simp <;> omega
  · have hl : d ≤ (n * 2 ^ d).log2 := by
      rw [Nat.le_log2 (Nat.ne_of_gt (Nat.mul_pos hn (Nat.two_pow_pos d)))]
      exact Nat.le_mul_of_pos_left _ hn
    have hm : min d ((n * 2 ^ d).log2 + 2) = d := by omega
    have hp := Nat.two_pow_pos d
    unfold Toward.cut
    simp only [hm, Nat.one_shiftLeft, Nat.mul_div_left n hp, Nat.mul_mod_left]
    cases way <;> simp <;> omega

theorem log2_bd {n : Nat} (h0 : 0 < n) (h : n < 2 ^ 53) : n.log2 ≤ 52 := by
  have := (Nat.log2_lt (by omega)).2 h
  omega
/-- a number's rung -/
def rung (n : Nat) : Nat := (n.log2 + 1022) * 2 ^ 52 + n * 2 ^ (52 - n.log2)
theorem kept_bd {n : Nat} (h0 : 0 < n) (h : n < 2 ^ 53) : 2 ^ 52 ≤ n * 2 ^ (52 - n.log2) ∧ n * 2 ^ (52 - n.log2) < 2 ^ 53 := by
  have hl := log2_bd h0 h
  have h1 : 2 ^ n.log2 ≤ n := Nat.log2_self_le (by omega)
  have h2 : n < 2 ^ (n.log2 + 1) := Nat.lt_log2_self
  constructor
  · calc 2 ^ 52 = 2 ^ n.log2 * 2 ^ (52 - n.log2) := by rw [← Nat.pow_add]; congr 1; omega
      _ ≤ _ := Nat.mul_le_mul_right _ h1
  · calc n * 2 ^ (52 - n.log2) < 2 ^ (n.log2 + 1) * 2 ^ (52 - n.log2) := Nat.mul_lt_mul_of_pos_right h2 (Nat.two_pow_pos _)
      _ = 2 ^ 53 := by rw [← Nat.pow_add]; congr 1; omega

theorem d_least : double.leastPlace = -1074 := by decide
theorem d_fb : double.fractionBits = 52 := rfl
theorem d_bin : double.binade = 4503599627370496 := by decide
theorem d_inf : double.infRung = 9218868437227405312 := by decide
theorem d_sw : double.signWeight = 9223372036854775808 := by decide
theorem p52 : (2 : Nat) ^ 52 = 4503599627370496 := by decide
theorem p53 : (2 : Nat) ^ 53 = 9007199254740992 := by decide
theorem rung_eq (n : Nat) : rung n = (n.log2 + 1022) * 4503599627370496 + n * 2 ^ (52 - n.log2) := rfl

theorem nearest_place (n k : Nat) (hl : n.log2 ≤ 52) : max (-(k : Int) + ((n.log2 + k : Nat) : Int) - 52) (-1074) = (n.log2 : Int) - 52 := by omega
theorem nearest_kept (s : Bool) (n k : Nat) (hl : n.log2 ≤ 52) : Toward.even.cut s ((n * 2 ^ k) <<< (-(k : Int) - ((n.log2 : Int) - 52)).toNat) ((n.log2 : Int) - 52 - -(k : Int)).toNat = n * 2 ^ (52 - n.log2) := by
  rw [Nat.shiftLeft_eq]
  generalize n.log2 = l at *
  rcases Nat.le_total k (52 - l) with hk | hk
  · have e1 : (-(k : Int) - ((l : Int) - 52)).toNat = 52 - l - k := by omega
    have e2 : ((l : Int) - 52 - -(k : Int)).toNat = 0 := by omega
    rw [e1, e2]
    have := cut_exact .even s (n * 2 ^ k * 2 ^ (52 - l - k)) 0
    rw [Nat.pow_zero, Nat.mul_one] at this
    rw [this, Nat.mul_assoc, ← Nat.pow_add]
    congr 2; omega
  · have e1 : (-(k : Int) - ((l : Int) - 52)).toNat = 0 := by omega
    have e2 : ((l : Int) - 52 - -(k : Int)).toNat = k - (52 - l) := by omega
    rw [e1, e2, Nat.pow_zero, Nat.mul_one]
    have e3 : n * 2 ^ k = n * 2 ^ (52 - l) * 2 ^ (k - (52 - l)) := by
      rw [Nat.mul_assoc, ← Nat.pow_add]; congr 2; omega
    rw [e3, cut_exact]
theorem log2_mul (n k : Nat) (h0 : 0 < n) : (n * 2 ^ k).log2 = n.log2 + k := by
  induction k with
  | zero => simp
  | succ k ih => rw [Nat.pow_succ, ← Nat.mul_assoc, Nat.mul_comm _ 2, Nat.log2_two_mul (Nat.ne_of_gt (Nat.mul_pos h0 (Nat.two_pow_pos k))), ih]; omega
theorem rung_min (l q : Nat) (hl : l ≤ 52) (h : q < 9007199254740992) : min (((l : Int) - 52 - -1074).toNat * 4503599627370496 + q) 9218868437227405312 = (l + 1022) * 4503599627370496 + q := by omega

theorem nearest_exact (s : Bool) (n k : Nat) (h0 : 0 < n) (h : n < 2 ^ 53) : double.nearest s (n * 2 ^ k) (-(k : Int)) = double.word s (rung n) := by
  have hl := log2_bd h0 h
  have hne : n * 2 ^ k ≠ 0 := Nat.ne_of_gt (Nat.mul_pos h0 (Nat.two_pow_pos k))
  have hk := (kept_bd h0 h).2
  rw [p53] at hk
  unfold Format.nearest
  rw [if_neg hne]
  simp only [log2_mul n k h0, d_least, d_fb, d_bin, d_inf]
  rw [show ((52 : Nat) : Int) = 52 from rfl, nearest_place n k hl, nearest_kept s n k hl, rung_min _ _ hl hk, ← rung_eq]

theorem read_def (f : Format) (W : Nat) : f.read W = if W % f.signWeight < f.binade then .number (W / f.signWeight % 2 == 1) (W % f.signWeight) f.leastPlace
    else if W % f.signWeight < f.infRung then .number (W / f.signWeight % 2 == 1) (f.binade + W % f.signWeight % f.binade) (f.leastPlace + ((W % f.signWeight / f.binade - 1 : Nat) : Int))
    else if W % f.signWeight = f.infRung then .infinity (W / f.signWeight % 2 == 1) else .nan (W / f.signWeight % 2 == 1) (W % f.signWeight - f.infRung) := rfl
theorem read_aux (s : Bool) (l q r : Nat) (hr : r = (l + 1022) * 4503599627370496 + q) (hl : l ≤ 52) (h1 : 4503599627370496 ≤ q) (h2 : q < 9007199254740992) :
    double.read (double.word s r) = .number s q (-((52 - l : Nat) : Int)) := by
  have e1 : double.word s r / 9223372036854775808 % 2 = if s then 1 else 0 := by
    unfold Format.word; rw [d_sw]; cases s <;> simp <;> omega
  have e2 : double.word s r % 9223372036854775808 = r := by
    unfold Format.word; rw [d_sw]; cases s <;> simp <;> omega
  have hr2 : ¬ r < 4503599627370496 := by omega
  have hr3 : r < 9218868437227405312 := by omega
  have e3 : 4503599627370496 + r % 4503599627370496 = q := by omega
  have e4 : r / 4503599627370496 - 1 = l + 1022 := by omega
  rw [read_def, d_sw, e1, e2, d_bin, d_inf, d_least, if_neg hr2, if_pos hr3, e3, e4]
  have e5 : ((if s then 1 else 0 : Nat) == 1) = s := by cases s <;> rfl
  have e6 : (-1074 : Int) + ((l + 1022 : Nat) : Int) = -((52 - l : Nat) : Int) := by omega
  rw [e5, e6]
theorem read_word (s : Bool) (n : Nat) (h0 : 0 < n) (h : n < 2 ^ 53) : double.read (double.word s (rung n)) = .number s (n * 2 ^ (52 - n.log2)) (-((52 - n.log2 : Nat) : Int)) := by
  have hk := kept_bd h0 h
  rw [p52, p53] at hk
  exact read_aux s n.log2 _ _ (rung_eq n) (log2_bd h0 h) hk.1 hk.2

theorem fb_eq (z : Int) : fb z = double.nearest (decide (z < 0)) z.natAbs 0 := rfl
theorem fb_exact (z : Int) (k : Nat) (h : z.natAbs < 2 ^ 53) : double.nearest (decide (z < 0)) (z.natAbs * 2 ^ k) (-(k : Int)) = fb z := by
  rcases Nat.eq_zero_or_pos z.natAbs with h0 | h0
  · have : z = 0 := by omega
    subst this
    rw [fb_eq]
    simp [Format.nearest]
  · rw [fb_eq, nearest_exact _ _ _ h0 h]
    have := nearest_exact (decide (z < 0)) z.natAbs 0 h0 h
    rw [Nat.pow_zero, Nat.mul_one] at this
    exact this.symm
theorem rd0 (k : Nat) : double.read 0 = .number (decide ((0 : Int) < 0)) ((0 : Int).natAbs * 2 ^ k) (-1074) := by
  rw [Int.natAbs_zero, Nat.zero_mul]; decide
theorem rd_zero : Rd 0 0 := ⟨1074, rd0 1074⟩
theorem rd_fb (z : Int) (h : z.natAbs < 2 ^ 53) : Rd (fb z) z := by
  rcases Nat.eq_zero_or_pos z.natAbs with h0 | h0
  · have : z = 0 := by omega
    subst this
    exact rd_zero
  · refine ⟨52 - z.natAbs.log2, ?_⟩
    have := nearest_exact (decide (z < 0)) z.natAbs 0 h0 h
    rw [Nat.pow_zero, Nat.mul_one] at this
    have this' : double.nearest (decide (z < 0)) z.natAbs 0 = double.word (decide (z < 0)) (rung z.natAbs) := this
    rw [fb_eq, this']
    exact read_word _ _ h0 h

theorem signed_z (z : Int) (k e : Nat) : signed (decide (z < 0)) (z.natAbs * 2 ^ k) e = z * 2 ^ (k + e) := by
  unfold signed
  rw [Nat.shiftLeft_eq, Nat.mul_assoc, ← Nat.pow_add]
  by_cases h : z < 0
  · simp only [h, decide_true, if_true]
    rw [Int.natCast_mul]
    have : ((z.natAbs : Nat) : Int) = -z := by omega
    rw [this, Int.neg_mul, Int.neg_neg]; simp
  · have h' : ¬ z < 0 := h
    simp only [h', decide_false, Bool.false_eq_true, if_false]
    rw [Int.natCast_mul]
    have : ((z.natAbs : Nat) : Int) = z := by omega
    rw [this]; simp

theorem add_fb {x y : Nat} {a b : Int} (hx : Rd x a) (hy : Rd y b) (h : (a + b).natAbs < 2 ^ 53) : double.add x y = some (fb (a + b)) := by
  obtain ⟨i, hi⟩ := hx
  obtain ⟨j, hj⟩ := hy
  unfold Format.add
  rw [hi, hj]
  simp only [Datum.sum, Option.map_some]
  obtain ⟨m, hm, hmi, hmj⟩ : ∃ m : Nat, min (-(i : Int)) (-(j : Int)) = -(m : Int) ∧ i ≤ m ∧ j ≤ m := ⟨max i j, by omega, by omega, by omega⟩
  rw [hm]
  have e1 : (-(i : Int) - -(m : Int)).toNat = m - i := by omega
  have e2 : (-(j : Int) - -(m : Int)).toNat = m - j := by omega
  rw [e1, e2, signed_z, signed_z, show i + (m - i) = m by omega, show j + (m - j) = m by omega, ← Int.add_mul]
  have hpos : (0 : Int) < 2 ^ m := Int.pow_pos (by decide)
  have hna : ((a + b) * 2 ^ m).natAbs = (a + b).natAbs * 2 ^ m := by rw [Int.natAbs_mul, Int.natAbs_pow]; rfl
  rw [hna]
  have hs : (if (a + b) * 2 ^ m = 0 then decide (a < 0) && decide (b < 0) else decide ((a + b) * 2 ^ m < 0)) = decide (a + b < 0) := by
    by_cases h0 : a + b = 0
    · rw [h0, Int.zero_mul, if_pos rfl]
      by_cases ha : a < 0
      · have : ¬ b < 0 := by omega
        simp [ha, this]
      · simp [ha]
    · rw [if_neg (Int.mul_ne_zero h0 (Int.ne_of_gt hpos))]
      congr 1
      exact propext ⟨fun hlt => by
        by_cases h1 : a + b < 0
        · exact h1
        · have := Int.mul_nonneg (show 0 ≤ a + b by omega) (Int.le_of_lt hpos); omega, fun hlt => Int.mul_neg_of_neg_of_pos hlt hpos⟩
  rw [hs]
  show some (double.nearest _ _ _) = _
  rw [fb_exact _ _ h]

theorem order_fb {x y : Nat} {a b : Int} (hx : Rd x a) (hy : Rd y b) : double.order x y = some (compare a b) := by
  obtain ⟨i, hi⟩ := hx
  obtain ⟨j, hj⟩ := hy
  unfold Format.order
  rw [hi, hj]
  simp only [Datum.order]
  obtain ⟨m, hm, hmi, hmj⟩ : ∃ m : Nat, min (-(i : Int)) (-(j : Int)) = -(m : Int) ∧ i ≤ m ∧ j ≤ m := ⟨max i j, by omega, by omega, by omega⟩
  rw [hm]
  have e1 : (-(i : Int) - -(m : Int)).toNat = m - i := by omega
  have e2 : (-(j : Int) - -(m : Int)).toNat = m - j := by omega
  rw [e1, e2, signed_z, signed_z, show i + (m - i) = m by omega, show j + (m - j) = m by omega]
  have hpos : (0 : Int) < 2 ^ m := Int.pow_pos (by decide)
  congr 1
  rcases Int.lt_trichotomy a b with h | h | h
  · have : a * 2 ^ m < b * 2 ^ m := Int.mul_lt_mul_of_pos_right h hpos
    simp [compare, compareOfLessAndEq, h, this]
  · subst h; simp [compare, compareOfLessAndEq]
  · have : b * 2 ^ m < a * 2 ^ m := Int.mul_lt_mul_of_pos_right h hpos
    have h1 : ¬ a < b := by omega
    have h2 : ¬ a = b := by omega
    have h3 : ¬ a * 2 ^ m < b * 2 ^ m := by omega
    have h4 : ¬ a * 2 ^ m = b * 2 ^ m := by omega
    simp [compare, compareOfLessAndEq, h1, h2, h3, h4]

theorem toInt_fb {x : Nat} {z : Int} (hx : Rd x z) : (double.read x).toInt .zero = some z := by
  obtain ⟨k, hk⟩ := hx
  rw [hk]
  simp only [Datum.toInt, Datum.integral]
  have e : (-(k : Int)).toNat = 0 := by omega
  have e2 : (- -(k : Int)).toNat = k := by omega
  rw [e, e2, Nat.shiftLeft_zero, cut_exact]
  have := signed_z z 0 0
  rw [Nat.pow_zero, Nat.mul_one] at this
  rw [this]
  simp

/-! ### Bits of a word of 64 -/
theorem u64_id (n : Int) (h0 : 0 ≤ n) (h1 : n < 2 ^ 64) : IntKind.u64.wrap n = n := by rw [IntKind.wrap_u64]; omega
theorem bits_u64 (op : BinOp) (x y : Nat) : bits op .u64 (x : Int) (y : Int) = (((match op with
    | .and => BitVec.ofNat 64 x &&& BitVec.ofNat 64 y
    | .or => BitVec.ofNat 64 x ||| BitVec.ofNat 64 y
    | .xor => BitVec.ofNat 64 x ^^^ BitVec.ofNat 64 y
    | _ => BitVec.ofNat 64 x &&& ~~~BitVec.ofNat 64 y : BitVec 64).toNat : Nat) : Int) := by
  unfold bits
  have e : ∀ n : Nat, BitVec.ofInt IntKind.u64.bits (n : Int) = BitVec.ofNat 64 n := fun n => BitVec.ofInt_natCast 64 n
  simp only [e]
  have hb : ∀ v : BitVec 64, IntKind.u64.wrap (v.toNat : Int) = (v.toNat : Int) := fun v => u64_id _ (by omega) (by have := v.isLt; omega)
  exact hb _
theorem u64_low (x d : Nat) (hx : x < 2 ^ 64) (hd : d ≤ 64) : bits .and .u64 (x : Int) ((2 ^ d - 1 : Nat) : Int) = ((x % 2 ^ d : Nat) : Int) := by
  rw [bits_u64]
  congr 1
  simp only [BitVec.toNat_and, BitVec.toNat_ofNat]
  rw [Nat.mod_eq_of_lt hx, Nat.mod_eq_of_lt (show 2 ^ d - 1 < 2 ^ 64 by have := Nat.pow_le_pow_right (show 0 < 2 by decide) hd; have := Nat.two_pow_pos d; omega), Nat.and_two_pow_sub_one_eq_mod]
theorem clear_bits (x d : Nat) : x / 2 ^ d * 2 ^ d = x >>> d <<< d := by rw [Nat.shiftLeft_eq, Nat.shiftRight_eq_div_pow]
theorem u64_clear (x d : Nat) (hx : x < 2 ^ 64) (hd : d ≤ 64) : bits .andNot .u64 (x : Int) ((2 ^ d - 1 : Nat) : Int) = ((x / 2 ^ d * 2 ^ d : Nat) : Int) := by
  have hlt : x / 2 ^ d * 2 ^ d < 2 ^ 64 := Nat.lt_of_le_of_lt (Nat.div_mul_le_self _ _) hx
  rw [bits_u64]
  congr 1
  have e : (BitVec.ofNat 64 x &&& ~~~BitVec.ofNat 64 (2 ^ d - 1)) = BitVec.ofNat 64 (x / 2 ^ d * 2 ^ d) := by
    apply BitVec.eq_of_getLsbD_eq
    intro i hi
    rw [clear_bits]
    simp only [BitVec.getLsbD_and, BitVec.getLsbD_not, BitVec.getLsbD_ofNat, hi, decide_true, Bool.true_and, Nat.testBit_two_pow_sub_one, Nat.testBit_shiftLeft, Nat.testBit_shiftRight]
    by_cases h : i < d
    · simp [h]
      intro h2; omega
    · have h' : d ≤ i := by omega
      simp [h', show d + (i - d) = i by omega]
  show (BitVec.ofNat 64 x &&& ~~~BitVec.ofNat 64 (2 ^ d - 1)).toNat = _
  rw [e, BitVec.toNat_ofNat, Nat.mod_eq_of_lt hlt]
theorem u64_abs (x : Nat) (hx : x < 2 ^ 64) : bits .andNot .u64 (x : Int) 9223372036854775808 = ((x % 2 ^ 63 : Nat) : Int) := by
  have h := bits_u64 .andNot x 9223372036854775808
  refine (show bits .andNot .u64 (x : Int) 9223372036854775808 = _ from h).trans ?_
  congr 1
  have e : (BitVec.ofNat 64 x &&& ~~~BitVec.ofNat 64 9223372036854775808) = BitVec.ofNat 64 (x % 2 ^ 63) := by
    apply BitVec.eq_of_getLsbD_eq
    intro i hi
    have e63 : (9223372036854775808 : Nat) = 2 ^ 63 := by decide
    rw [e63]
    simp only [BitVec.getLsbD_and, BitVec.getLsbD_not, BitVec.getLsbD_ofNat, hi, decide_true, Bool.true_and, Nat.testBit_two_pow, Nat.testBit_mod_two_pow]
    by_cases h : i < 63
    · have h' : ¬ 63 = i := by omega
      simp [h, h']
    · have h' : i = 63 := by omega
      simp [h']
  show (BitVec.ofNat 64 x &&& ~~~BitVec.ofNat 64 9223372036854775808).toNat = _
  rw [e, BitVec.toNat_ofNat, Nat.mod_eq_of_lt (Nat.lt_of_le_of_lt (Nat.mod_le _ _) hx)]
theorem u64_sign (x : Nat) (hx : x < 2 ^ 64) : bits .and .u64 (x : Int) 9223372036854775808 = ((x / 2 ^ 63 * 2 ^ 63 : Nat) : Int) := by
  have hlt : x / 2 ^ 63 * 2 ^ 63 < 2 ^ 64 := Nat.lt_of_le_of_lt (Nat.div_mul_le_self _ _) hx
  have h := bits_u64 .and x 9223372036854775808
  refine (show bits .and .u64 (x : Int) 9223372036854775808 = _ from h).trans ?_
  congr 1
  have e : (BitVec.ofNat 64 x &&& BitVec.ofNat 64 9223372036854775808) = BitVec.ofNat 64 (x / 2 ^ 63 * 2 ^ 63) := by
    apply BitVec.eq_of_getLsbD_eq
    intro i hi
    have e63 : (9223372036854775808 : Nat) = 2 ^ 63 := by decide
    rw [e63, clear_bits]
    simp only [BitVec.getLsbD_and, BitVec.getLsbD_ofNat, hi, decide_true, Bool.true_and, Nat.testBit_two_pow, Nat.testBit_shiftLeft, Nat.testBit_shiftRight]
    by_cases h : i < 63
    · have h' : ¬ 63 ≤ i := by omega
      have h2 : ¬ 63 = i := by omega
      simp [h', h2]
    · have h' : i = 63 := by omega
      simp [h']
  show (BitVec.ofNat 64 x &&& BitVec.ofNat 64 9223372036854775808).toNat = _
  rw [e, BitVec.toNat_ofNat, Nat.mod_eq_of_lt hlt]
theorem u64_or0 (x : Nat) (hx : x < 2 ^ 64) : bits .or .u64 0 (x : Int) = (x : Int) := by
  have h := bits_u64 .or 0 x
  refine (show bits .or .u64 0 (x : Int) = _ from h).trans ?_
  congr 1
  show (BitVec.ofNat 64 0 ||| BitVec.ofNat 64 x).toNat = _
  rw [BitVec.toNat_or, BitVec.toNat_ofNat, BitVec.toNat_ofNat, Nat.mod_eq_of_lt hx]
  simp

/-! ### The whole numbers' words -/
theorem fb_pos (z : Nat) (h0 : 0 < z) (h : z < 2 ^ 53) : fb z = rung z := by
  have := nearest_exact false z 0 h0 h
  rw [Nat.pow_zero, Nat.mul_one] at this
  have e : decide ((z : Int) < 0) = false := by simp
  rw [fb_eq, e]
  exact this
theorem fb_zero : fb 0 = 0 := by rw [fb_eq]; simp [Format.nearest]; rfl
theorem rung_le (z : Nat) (h0 : 0 < z) (h : z < 2 ^ 53) : rung z < 2 ^ 63 ∧ rung z / 4503599627370496 % 2048 = z.log2 + 1023 ∧ rung z / 2 ^ (52 - z.log2) * 2 ^ (52 - z.log2) = rung z := by
  have hk := kept_bd h0 h
  rw [p52, p53] at hk
  have hl := log2_bd h0 h
  have hr := rung_eq z
  refine ⟨by omega, by omega, Nat.div_mul_cancel ?_⟩
  rw [show rung z = (z.log2 + 1022) * 2 ^ 52 + z * 2 ^ (52 - z.log2) from rfl]
  refine Nat.dvd_add (Nat.dvd_trans ?_ (Nat.dvd_mul_left _ _)) (Nat.dvd_mul_left _ _)
  exact Nat.pow_dvd_pow 2 (by omega)
end Go.Proofs.YtpdhoojjcgohpaaGreat
