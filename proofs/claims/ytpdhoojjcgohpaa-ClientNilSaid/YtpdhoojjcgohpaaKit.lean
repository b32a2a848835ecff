
/- Words for memory that all proofs of this seat use: a block known whole, what a call may write, a region whose last operations come in one order. -/
import Derived.Test.YtpdhoojjcgohpaaRows
import Derived.WalkKit
import Derived.ProofKit
import Derived.OpenShut
import Derived.WalkLawsBesides
import Derived.Lib.Hide
import Derived.RegionTactic
import Derived.ChangeAlike
import Derived.BigQuiet
import Derived.BigRegion
import Derived.Below
import Derived.Laws.OwnMore
import Derived.Laws.Rows
import Derived.Deep.QuietTactic
import Derived.Deep.RegionWith
import Derived.Deep.Draws
import Derived.Deep.CutRange
import Derived.Deep.LoopGhost
import Derived.Deep.DeepCutAuto
import Derived.Deep.CutBlock
import Derived.Laws.BytesArg
import Derived.StillTailTactics
import Derived.DataReads
import Derived.ChangeArms
import Derived.WideShapes
namespace Go.Proofs.Ytpdhoojjcgohpaa
set_option maxRecDepth 4000
open Go.RowKit
set_option linter.unusedVariables false

theorem ret_int {k : IntKind} {a b : Int} (h : a = b) : Ending.returned (.int k a) = .returned (.int k b) := by rw [h]
theorem ret_bool {a b : Bool} (h : a = b) : Ending.returned (.bool a) = .returned (.bool b) := by rw [h]
theorem ret_val {a b : Value} (h : a = b) : Ending.returned a = .returned b := by rw [h]

/-- A drawn region whose first n operations only read, the others come in one order. -/
theorem still_tail {P : Program} {id : Nat} {Q : Exit → Act → World → Prop} {a : Act} {w : World} {l : List Oper} (n : Nat) (hm : P.follows .mixedOrders = true) (hB : Region.lexTailB .any l.toArray n = true)
    (h : wpStill P l.toArray w.drew (fun a' => wpList P l.toArray Q (l.drop n) a' w.drew) (l.take n) a) : (Code.region id l.toArray true).wp P Q a w :=
  wp_region_still_tail n hm hB h

/-- Block g is just the cells cs of element type t, none frozen. -/
def Blk (w : World) (g : Nat) (t : TypeId) (cs : Array Value) : Prop := w.heap[g]? = some (.cells cs t (0, 0))

/-- What a call may do: new blocks, draws, and writes to the old blocks of S alone. -/
structure Only (S : Nat → Prop) (w w' : World) : Prop where
  os : w'.os = w.os
  tape : w'.tape = w.tape
  output : w'.output = w.output
  size : w.heap.size ≤ w'.heap.size
  block : ∀ k, k < w.heap.size → ¬ S k → w'.heap[k]? = w.heap[k]?

section
variable {w w' w'' : World} {S S' : Nat → Prop}
theorem Only.refl (S : Nat → Prop) (w : World) : Only S w w := ⟨rfl, rfl, rfl, Nat.le_refl _, fun _ _ _ => rfl⟩
theorem Only.trans (h : Only S w w') (k : Only S' w' w'') (hs : ∀ i, i < w.heap.size → S' i → S i) : Only S w w'' :=
  ⟨k.os.trans h.os, k.tape.trans h.tape, k.output.trans h.output, Nat.le_trans h.size k.size, fun i hi hn => (k.block i (Nat.lt_of_lt_of_le hi h.size) (fun hS => hn (hs i hi hS))).trans (h.block i hi hn)⟩
theorem Only.then (h : Only S w w') (k : Only S w' w'') : Only S w w'' := h.trans k (fun _ _ h => h)
theorem Only.mono (h : Only S w w') (hs : ∀ i, i < w.heap.size → S i → S' i) : Only S' w w' :=
  ⟨h.os, h.tape, h.output, h.size, fun i hi hn => h.block i hi (fun hS => hn (hs i hi hS))⟩
theorem Only.drew (h : Only S w w') : Only S w w'.drew := ⟨h.os, h.tape, h.output, h.size, h.block⟩
theorem Only.drewN (h : Only S w w') (n : Nat) : Only S w (w'.drewN n) := ⟨h.os, h.tape, h.output, h.size, h.block⟩
theorem Only.alloc (h : Only S w w') (o : Obj) : Only S w (w'.alloc o) :=
  h.trans (S' := fun _ => False) ⟨rfl, rfl, rfl, by simp, fun k hk _ => Below.heap_alloc _ _ _ hk⟩ (fun _ _ h => h.elim)
theorem Only.setCell (h : Only S w w') {p : Addr} (hp : p.block < w.heap.size → S p.block) (u : Value) : Only S w (w'.setCell p u) :=
  h.trans (S' := fun k => k = p.block) ⟨rfl, rfl, rfl, by simp [World.setCell], fun k hk hn => Below.heap_setCell _ _ _ _ hn⟩ (fun i hi he => by subst he; exact hp hi)
theorem Only.of_grown {row : Option Nat} (h : Only S w w') (hg : w'.grownBy w'' row) (hr : ∀ k, row = some k → k < w.heap.size → S k) : Only S w w'' :=
  h.trans (S' := fun k => row = some k) ⟨hg.os, hg.tape, hg.output, hg.size, fun k hk hn => hg.block k hk (fun e => hn e.symm)⟩ (fun i hi he => hr i he hi)
theorem Only.of_below {B : Nat} (h : Below B w w') : Only (fun k => B ≤ k) w w' := ⟨h.os, h.tape, h.output, h.size, fun k _ hn => h.block k (by omega)⟩
theorem Only.below {B : Nat} (h : Only S w w') (hB : B ≤ w.heap.size) (hs : ∀ k, k < B → ¬ S k) : Below B w w' := ⟨h.os, h.tape, h.output, h.size, fun k hk => h.block k (by omega) (hs k hk)⟩
theorem Only.cell (h : Only S w w') {p : Addr} (hp : p.block < w.heap.size) (hn : ¬ S p.block) : w'.cell? p = w.cell? p := World.cell?_of_block (w := w) (h.block p.block hp hn)
theorem Only.frozen (h : Only S w w') {p : Addr} (hp : p.block < w.heap.size) (hn : ¬ S p.block) : w'.frozen? p = w.frozen? p := World.frozen?_of_block (w := w) (h.block p.block hp hn)
/-- nothing that was there -/
theorem Only.none_below (h : Only (fun _ => False) w w') : Below w.heap.size w w' := h.below (Nat.le_refl _) (fun _ _ h => h)
end

section
variable {w w' : World} {g : Nat} {t : TypeId} {cs : Array Value} {S : Nat → Prop}
theorem Blk.lt (h : Blk w g t cs) : g < w.heap.size := by
  rcases Nat.lt_or_ge g w.heap.size with hlt | hge
  · exact hlt
  · unfold Blk at h; rw [Array.getElem?_eq_none hge] at h; cases h
theorem Blk.cell (h : Blk w g t cs) (i : Nat) : w.cell? ⟨g, i, none⟩ = cs[i]? := cell_of_row w g i cs t (0, 0) h
theorem Blk.frozen (h : Blk w g t cs) (i : Nat) : w.frozen? ⟨g, i, none⟩ = false := by
  unfold Blk at h
  simp [World.frozen?, h]
theorem Blk.new (w : World) (t : TypeId) (cs : Array Value) : Blk (w.alloc (.cells cs t)) w.heap.size t cs := heap_alloc_new w _
theorem Blk.drew (h : Blk w g t cs) : Blk w.drew g t cs := h
theorem Blk.drewN (h : Blk w g t cs) (n : Nat) : Blk (w.drewN n) g t cs := h
theorem Blk.alloc (h : Blk w g t cs) (o : Obj) : Blk (w.alloc o) g t cs := (Below.heap_alloc w o g h.lt).trans h
theorem Blk.set_ (h : Blk w g t cs) (i : Nat) (u : Value) : Blk (w.setCell ⟨g, i, none⟩ u) g t (cs.setIfInBounds i u) := by
  unfold Blk at h ⊢
  simp [World.setCell, Array.getElem?_modify, h]
theorem Blk.far (h : Blk w g t cs) {p : Addr} (hp : g ≠ p.block) (u : Value) : Blk (w.setCell p u) g t cs := (Below.heap_setCell w p u g hp).trans h
theorem Blk.below {B : Nat} (h : Blk w g t cs) (hb : Below B w w') (hg : g < B) : Blk w' g t cs := (hb.block g hg).trans h
theorem Blk.only (h : Blk w g t cs) (hb : Only S w w') (hg : ¬ S g) : Blk w' g t cs := (hb.block g h.lt hg).trans h
theorem Blk.to {cs' : Array Value} (h : Blk w g t cs) (e : cs = cs') : Blk w g t cs' := e ▸ h
theorem Blk.ne_ {g' : Nat} {t' : TypeId} {cs' : Array Value} (h : Blk w g t cs) (h' : Blk w g' t' cs') (hne : t ≠ t') : g ≠ g' := by
  rintro rfl
  unfold Blk at h h'
  rw [h] at h'
  injection h' with h'
  injection h' with _ ht
  exact hne ht
end

/-- A cell that is there lies in a block that is there. -/
theorem lt_of_cell {w : World} {p : Addr} {v : Value} (h : w.cell? p = some v) : p.block < w.heap.size := by
  rcases Nat.lt_or_ge p.block w.heap.size with hlt | hge
  · exact hlt
  · have e : w.heap[p.block]? = none := Array.getElem?_eq_none hge
    simp [World.cell?, e] at h

/-! ### What came in -/

/-- The cells cs read as a value of type t. -/
def Reads (w : World) (t : TypeId) (cs : List Value) : Prop := ∃ (H : Type) (enc : TypeId × Value → H) (fuel : Nat) (x : DataW H × List MemPlace), DataW.trod enc Try.prog w 0 (fun _ => true) true fuel t cs = some x
/-- What the walk is told of an argument. -/
def Seen (w : World) (t : TypeId) (v : Value) : Prop := (∃ base, Value.okWide Try.prog w .any base t v) ∧ ∃ (H : Type) (enc : TypeId × Value → H) (d : DataW H) (p : List MemPlace), DataW.Trod enc Try.prog w 0 (fun _ => true) true t v d p

section
variable {w : World} {t e : TypeId} {v : Value} {cs : List Value}
theorem Seen.reads (h : Seen w t v) : Reads w t v.cells.toList := by
  obtain ⟨_, H, enc, d, p, fuel, hf⟩ := h
  exact ⟨H, enc, fuel, _, hf⟩
theorem Reads.int {k : IntKind} (ht : Try.prog.underlying t = some (.int k)) (h : Reads w t cs) : ∃ n, cs = [.int k n] ∧ (Lit.int k n).wf = true := by
  obtain ⟨H, enc, fuel, x, hx⟩ := h
  obtain ⟨n, h1, _, h2⟩ := DataW.trod_int ht hx
  exact ⟨n, h1, h2⟩
theorem Reads.bool (ht : Try.prog.underlying t = some .bool) (h : Reads w t cs) : ∃ b, cs = [.bool b] := by
  obtain ⟨H, enc, fuel, x, hx⟩ := h
  obtain ⟨n, h1, _⟩ := DataW.trod_bool ht hx
  exact ⟨n, h1⟩
theorem Reads.str (ht : Try.prog.underlying t = some .string) (h : Reads w t cs) : ∃ s : ByteArray, cs = [.string s] ∧ s.size ≤ maxLen := by
  obtain ⟨H, enc, fuel, x, hx⟩ := h
  obtain ⟨n, h1, _, h2⟩ := DataW.trod_string ht hx
  exact ⟨n, h1, h2⟩
theorem Reads.struct {fs : Array Field} (ht : Try.prog.underlying t = some (.struct fs)) (h : Reads w t cs) :
    cs.length = Try.prog.cellsOf t ∧ ∀ (i : Nat) (f : Field), fs[i]? = some f → Reads w f.type ((cs.drop f.offset).take (Try.prog.cellsOf f.type)) := by
  obtain ⟨H, enc, fuel, x, hx⟩ := h
  obtain ⟨xs, n, _, _, hl, hlen, hf⟩ := DataW.trod_struct ht hx
  refine ⟨hl, fun i f hi => ?_⟩
  have h1 := hf i f hi
  have hlt : i < fs.size := (Array.getElem?_eq_some_iff.1 hi).1
  rw [List.getElem?_eq_getElem (by omega)] at h1
  exact ⟨H, enc, n, _, h1⟩
/-- A slice: each of its elements lies where it should, and reads as one. sz: the cells of an element. -/
theorem Reads.slice {sz : Nat} (ht : Try.prog.underlying t = some (.slice e)) (hc : Try.prog.cellsOf e = sz) (h0 : 0 < sz) (h : Reads w t cs) :
    ∃ a len cap, cs = [.slice a len cap] ∧ len ≤ cap ∧ cap ≤ maxLen ∧ ∀ i, i < len → ∃ b off cs', a = some ⟨b, off, none⟩ ∧ b < w.heap.size ∧ cs'.length = sz ∧ (∀ j, j < sz → w.cell? ⟨b, off + i * sz + j, none⟩ = cs'[j]?) ∧ Reads w e cs' := by
  obtain ⟨H, enc, fuel, x, hx⟩ := h
  rcases DataW.trod_slice ht hx with ⟨h1, _⟩ | ⟨a, len, cap, elems, rest, n, _, h1, _, _, hl, hm, hlen, hel, _, _⟩
  · exact ⟨none, 0, 0, h1, Nat.le_refl _, Nat.zero_le _, fun i hi => absurd hi (Nat.not_lt_zero _)⟩
  · refine ⟨some a, len, cap, h1, hl, hm, fun i hi => ?_⟩
    have key := hel i hi
    rw [List.getElem?_eq_getElem (by omega)] at key
    obtain ⟨cs', h2, h3⟩ := Option.bind_eq_some_iff.1 key
    rw [hc] at h2
    obtain ⟨_, hlen', hcell⟩ := World.cells?_some h2
    have hs : a.spot = none := by
      have k0 := hel 0 (by omega)
      rw [List.getElem?_eq_getElem (by omega)] at k0
      obtain ⟨c0, g2, _⟩ := Option.bind_eq_some_iff.1 k0
      rw [hc] at g2
      obtain ⟨_, gl, gc⟩ := World.cells?_some g2
      have g3 := gc 0 h0
      rw [List.getElem?_eq_getElem (by omega)] at g3
      exact (by simpa [Addr.add] using World.cell?_spot g3)
    obtain ⟨b, off, spot⟩ := a
    have hspot : spot = none := hs
    subst hspot
    have hcell2 : ∀ j, j < sz → w.cell? ⟨b, off + i * sz + j, none⟩ = cs'[j]? := by
      intro j hj
      rw [← hcell j hj]
      congr 1
      unfold Addr.add
      by_cases e1 : i * sz = 0 <;> by_cases e2 : j = 0 <;> simp [e1, e2, Nat.add_assoc]
    have hb : b < w.heap.size := by
      have g := hcell2 0 h0
      rw [List.getElem?_eq_getElem (by omega)] at g
      exact lt_of_cell g
    exact ⟨b, off, cs', rfl, hb, hlen', hcell2, H, enc, n, _, h3⟩
theorem Seen.int {k : IntKind} (ht : Try.prog.underlying t = some (.int k)) (h : Seen w t v) : ∃ n, v = .int k n ∧ (Lit.int k n).wf = true := by
  obtain ⟨base, hv⟩ := h.1
  obtain ⟨n, rfl⟩ := Go.WideShapes.okWide_int ht hv
  obtain ⟨m, hm, hw⟩ := h.reads.int ht
  simp [Value.cells] at hm
  subst hm
  exact ⟨n, rfl, hw⟩
theorem Seen.bool (ht : Try.prog.underlying t = some .bool) (h : Seen w t v) : ∃ b, v = .bool b := by
  obtain ⟨base, hv⟩ := h.1
  exact Go.WideShapes.okWide_bool ht hv
theorem Seen.str (ht : Try.prog.underlying t = some .string) (h : Seen w t v) : ∃ s : ByteArray, v = .string s ∧ s.size ≤ maxLen := by
  obtain ⟨base, hv⟩ := h.1
  obtain ⟨n, rfl⟩ := Go.WideShapes.okWide_string ht hv
  obtain ⟨m, hm, hw⟩ := h.reads.str ht
  simp [Value.cells] at hm
  subst hm
  exact ⟨n, rfl, hw⟩
theorem Seen.struct {fs : Array Field} (ht : Try.prog.underlying t = some (.struct fs)) (h : Seen w t v) : ∃ cs : Array Value, v = .agg cs ∧ Reads w t cs.toList := by
  obtain ⟨base, hv⟩ := h.1
  obtain ⟨cs, rfl, _⟩ := Go.WideShapes.okWide_struct ht hv
  exact ⟨cs, rfl, by simpa [Value.cells] using h.reads⟩
theorem Seen.slice {sz : Nat} (ht : Try.prog.underlying t = some (.slice e)) (hc : Try.prog.cellsOf e = sz) (h0 : 0 < sz) (h : Seen w t v) :
    ∃ a len cap, v = .slice a len cap ∧ len ≤ cap ∧ cap ≤ maxLen ∧ ∀ i, i < len → ∃ b off cs', a = some ⟨b, off, none⟩ ∧ b < w.heap.size ∧ cs'.length = sz ∧ (∀ j, j < sz → w.cell? ⟨b, off + i * sz + j, none⟩ = cs'[j]?) ∧ Reads w e cs' := by
  obtain ⟨base, hv⟩ := h.1
  obtain ⟨a, len, cap, rfl⟩ := Go.WideShapes.okWide_slice ht hv
  obtain ⟨a', len', cap', hm, hr⟩ := h.reads.slice ht hc h0
  simp [Value.cells] at hm
  obtain ⟨rfl, rfl, rfl⟩ := hm
  exact ⟨a, len, cap, rfl, hr⟩
end

theorem Below.put {B : Nat} {w wr w2 : World} {S : Nat → Prop} (hb : Below B w wr) (hB : B ≤ w.heap.size) (hs : ∀ k, k < B → ¬ S k) (ho : Only S wr w2) : Below B w w2 :=
  hb.trans (ho.below (Nat.le_trans hB hb.size) hs)
theorem belowN {B n : Nat} {w w' : World} (h : Below B w w') : Below B w (w'.drewN n) := ⟨h.os, h.tape, h.output, h.size, h.block⟩
/-- a callee that reads and draws nothing, inside a region that draws -/
theorem quiet_eq {P : Program} {f : FuncId} {args : Array Value} {w : World} {n : Nat} {v : Value}
    (h : Calls P f args (w.drewN n) fun e w' => e = .returned v ∧ w.drewN n = w') : Calls P f args (w.drewN n) fun e w'' => e = .returned v ∧ ∃ m, w'' = w.drewN m :=
  Calls.quiet_of_same (h.mono fun _ _ ⟨a, b⟩ => ⟨a, b.symm⟩)
/-- a callee that reads and may draw, inside a region that draws -/
theorem quiet_n {P : Program} {f : FuncId} {args : Array Value} {w : World} {n : Nat} {v : Value}
    (h : Calls P f args (w.drewN n) fun e w' => e = .returned v ∧ ∃ m, w' = (w.drewN n).drewN m) : Calls P f args (w.drewN n) fun e w'' => e = .returned v ∧ ∃ m, w'' = w.drewN m :=
  Calls.quiet_of h

/-- n cells that hold z -/
def zeros (n : Nat) (z : Value) : Array Value := Array.replicate n z
theorem zeros_toList (n : Nat) (z : Value) : (zeros n z).toList = List.replicate n z := by simp [zeros]
theorem zeros_size (n : Nat) (z : Value) : (zeros n z).size = n := by simp [zeros]
/-- 'make([]T, n)', T of one cell: the very world. -/
theorem make_rep {P : Program} {t e : TypeId} {i : TypeInfo} {z : Value} {by_ : Nat} (ht : P.underlying t = some (.slice e)) (hi : P.info? e = some i) (hz : i.zero = some z) (h1 : i.size = 1) (hb : i.bytes = by_) (hc : z.cells = #[z]) (n : Nat)
    (hbytes : by_ * n ≤ 281474976710656) (hm : n ≤ 9223372036854775807) (w : World) :
    (Instr.makeSlice t (.int .i64 (n : Int)) (.int .i64 (n : Int))).run P w = .ok (.slice (some ⟨w.heap.size, 0, none⟩) n n) (w.alloc (.cells (zeros n z) e)) := by
  have h := run_make (P := P) w t e i z ht hi hz .i64 .i64 n n (by omega) (Int.le_refl _) (by rw [hb, ← Int.natCast_mul]; generalize by_ * n = p at *; omega) (by omega)
  rw [h]
  have e1 : madeCells z.cells ((n : Int).toNat * i.size) = zeros n z := by
    rw [h1, hc, zeros]
    apply Array.ext
    · simp [madeCells]
    · intro j hj hj2
      simp [madeCells, Nat.mod_one]
  rw [e1]
  simp

end Go.Proofs.Ytpdhoojjcgohpaa
