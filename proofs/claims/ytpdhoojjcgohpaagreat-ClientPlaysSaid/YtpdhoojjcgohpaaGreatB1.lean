/- Texts joined: Kit Own Byt. -/
import Derived.Test.YtpdhoojjcgohpaaGreatRows
import Derived.WalkKit
import Derived.ProofKit
import Derived.OpenShut
import Derived.WalkLawsBesides
import Derived.Lib.Hide
import Derived.RegionTactic
import Derived.ChangeAlike
import Derived.BigQuiet
import Derived.BigRegion
import Derived.Below
import Derived.Laws.OwnMore
import Derived.Laws.Rows
import Derived.Deep.QuietTactic
import Derived.Deep.RegionWith
import Derived.Deep.Draws
import Derived.Deep.CutRange
import Derived.Deep.LoopGhost
import Derived.Deep.DeepCutAuto
import Derived.Deep.CutBlock
import Derived.Laws.BytesArg
import Derived.StillTailTactics
import Derived.DataReads
import Derived.ChangeArms
import Derived.WideShapes
import Derived.Maps.AppendAt
import Derived.Deep.AppendLies
import Derived.OwnWalk
import Derived.Laws.IdiomStrings
import Derived.Lib.ConvBytes
import Derived.Lib.SlBytesConst
namespace Go.Proofs.YtpdhoojjcgohpaaGreat
set_option maxRecDepth 4000
open Go.RowKit
set_option linter.unusedVariables false

theorem ret_int {k : IntKind} {a b : Int} (h : a = b) : Ending.returned (.int k a) = .returned (.int k b) := by rw [h]
theorem ret_bool {a b : Bool} (h : a = b) : Ending.returned (.bool a) = .returned (.bool b) := by rw [h]
theorem ret_val {a b : Value} (h : a = b) : Ending.returned a = .returned b := by rw [h]

/-- A drawn region whose first n operations only read, the others come in one order. -/
theorem still_tail {P : Program} {id : Nat} {Q : Exit → Act → World → Prop} {a : Act} {w : World} {l : List Oper} (n : Nat) (hm : P.follows .mixedOrders = true) (hB : Region.lexTailB .any l.toArray n = true)
    (h : wpStill P l.toArray w.drew (fun a' => wpList P l.toArray Q (l.drop n) a' w.drew) (l.take n) a) : (Code.region id l.toArray true).wp P Q a w :=
  wp_region_still_tail n hm hB h

/-- Block g is just the cells cs of element type t, none frozen. -/
def Blk (w : World) (g : Nat) (t : TypeId) (cs : Array Value) : Prop := w.heap[g]? = some (.cells cs t (0, 0))

/-- What a call may do: new blocks, draws, and writes to the old blocks of S alone. -/
structure Only (S : Nat → Prop) (w w' : World) : Prop where
  os : w'.os = w.os
  tape : w'.tape = w.tape
  output : w'.output = w.output
  size : w.heap.size ≤ w'.heap.size
  block : ∀ k, k < w.heap.size → ¬ S k → w'.heap[k]? = w.heap[k]?

section
variable {w w' w'' : World} {S S' : Nat → Prop}
theorem Only.refl (S : Nat → Prop) (w : World) : Only S w w := ⟨rfl, rfl, rfl, Nat.le_refl _, fun _ _ _ => rfl⟩
theorem Only.trans (h : Only S w w') (k : Only S' w' w'') (hs : ∀ i, i < w.heap.size → S' i → S i) : Only S w w'' :=
  ⟨k.os.trans h.os, k.tape.trans h.tape, k.output.trans h.output, Nat.le_trans h.size k.size, fun i hi hn => (k.block i (Nat.lt_of_lt_of_le hi h.size) (fun hS => hn (hs i hi hS))).trans (h.block i hi hn)⟩
theorem Only.then (h : Only S w w') (k : Only S w' w'') : Only S w w'' := h.trans k (fun _ _ h => h)
theorem Only.mono (h : Only S w w') (hs : ∀ i, i < w.heap.size → S i → S' i) : Only S' w w' :=
  ⟨h.os, h.tape, h.output, h.size, fun i hi hn => h.block i hi (fun hS => hn (hs i hi hS))⟩
theorem Only.drew (h : Only S w w') : Only S w w'.drew := ⟨h.os, h.tape, h.output, h.size, h.block⟩
theorem Only.drewN (h : Only S w w') (n : Nat) : Only S w (w'.drewN n) := ⟨h.os, h.tape, h.output, h.size, h.block⟩
theorem Only.alloc (h : Only S w w') (o : Obj) : Only S w (w'.alloc o) :=
  h.trans (S' := fun _ => False) ⟨rfl, rfl, rfl, by simp, fun k hk _ => Below.heap_alloc _ _ _ hk⟩ (fun _ _ h => h.elim)
theorem Only.setCell (h : Only S w w') {p : Addr} (hp : p.block < w.heap.size → S p.block) (u : Value) : Only S w (w'.setCell p u) :=
  h.trans (S' := fun k => k = p.block) ⟨rfl, rfl, rfl, by simp [World.setCell], fun k hk hn => Below.heap_setCell _ _ _ _ hn⟩ (fun i hi he => by subst he; exact hp hi)
theorem Only.of_grown {row : Option Nat} (h : Only S w w') (hg : w'.grownBy w'' row) (hr : ∀ k, row = some k → k < w.heap.size → S k) : Only S w w'' :=
  h.trans (S' := fun k => row = some k) ⟨hg.os, hg.tape, hg.output, hg.size, fun k hk hn => hg.block k hk (fun e => hn e.symm)⟩ (fun i hi he => hr i he hi)
theorem Only.of_below {B : Nat} (h : Below B w w') : Only (fun k => B ≤ k) w w' := ⟨h.os, h.tape, h.output, h.size, fun k _ hn => h.block k (by omega)⟩
theorem Only.below {B : Nat} (h : Only S w w') (hB : B ≤ w.heap.size) (hs : ∀ k, k < B → ¬ S k) : Below B w w' := ⟨h.os, h.tape, h.output, h.size, fun k hk => h.block k (by omega) (hs k hk)⟩
theorem Only.cell (h : Only S w w') {p : Addr} (hp : p.block < w.heap.size) (hn : ¬ S p.block) : w'.cell? p = w.cell? p := World.cell?_of_block (w := w) (h.block p.block hp hn)
theorem Only.frozen (h : Only S w w') {p : Addr} (hp : p.block < w.heap.size) (hn : ¬ S p.block) : w'.frozen? p = w.frozen? p := World.frozen?_of_block (w := w) (h.block p.block hp hn)
/-- nothing that was there -/
theorem Only.none_below (h : Only (fun _ => False) w w') : Below w.heap.size w w' := h.below (Nat.le_refl _) (fun _ _ h => h)
end

section
variable {w w' : World} {g : Nat} {t : TypeId} {cs : Array Value} {S : Nat → Prop}
theorem Blk.lt (h : Blk w g t cs) : g < w.heap.size := by
  rcases Nat.lt_or_ge g w.heap.size with hlt | hge
  · exact hlt
  · unfold Blk at h; rw [Array.getElem?_eq_none hge] at h; cases h
theorem Blk.cell (h : Blk w g t cs) (i : Nat) : w.cell? ⟨g, i, none⟩ = cs[i]? := cell_of_row w g i cs t (0, 0) h
theorem Blk.frozen (h : Blk w g t cs) (i : Nat) : w.frozen? ⟨g, i, none⟩ = false := by
  unfold Blk at h
  simp [World.frozen?, h]
theorem Blk.new (w : World) (t : TypeId) (cs : Array Value) : Blk (w.alloc (.cells cs t)) w.heap.size t cs := heap_alloc_new w _
theorem Blk.drew (h : Blk w g t cs) : Blk w.drew g t cs := h
theorem Blk.drewN (h : Blk w g t cs) (n : Nat) : Blk (w.drewN n) g t cs := h
theorem Blk.alloc (h : Blk w g t cs) (o : Obj) : Blk (w.alloc o) g t cs := (Below.heap_alloc w o g h.lt).trans h
theorem Blk.set_ (h : Blk w g t cs) (i : Nat) (u : Value) : Blk (w.setCell ⟨g, i, none⟩ u) g t (cs.setIfInBounds i u) := by
  unfold Blk at h ⊢
  simp [World.setCell, Array.getElem?_modify, h]
theorem Blk.far (h : Blk w g t cs) {p : Addr} (hp : g ≠ p.block) (u : Value) : Blk (w.setCell p u) g t cs := (Below.heap_setCell w p u g hp).trans h
theorem Blk.below {B : Nat} (h : Blk w g t cs) (hb : Below B w w') (hg : g < B) : Blk w' g t cs := (hb.block g hg).trans h
theorem Blk.only (h : Blk w g t cs) (hb : Only S w w') (hg : ¬ S g) : Blk w' g t cs := (hb.block g h.lt hg).trans h
theorem Blk.to {cs' : Array Value} (h : Blk w g t cs) (e : cs = cs') : Blk w g t cs' := e ▸ h
theorem Blk.ne_ {g' : Nat} {t' : TypeId} {cs' : Array Value} (h : Blk w g t cs) (h' : Blk w g' t' cs') (hne : t ≠ t') : g ≠ g' := by
  rintro rfl
  unfold Blk at h h'
  rw [h] at h'
  injection h' with h'
  injection h' with _ ht
  exact hne ht
end

/-- A cell that is there lies in a block that is there. -/
theorem lt_of_cell {w : World} {p : Addr} {v : Value} (h : w.cell? p = some v) : p.block < w.heap.size := by
  rcases Nat.lt_or_ge p.block w.heap.size with hlt | hge
  · exact hlt
  · have e : w.heap[p.block]? = none := Array.getElem?_eq_none hge
    simp [World.cell?, e] at h

/-! ### What came in -/

/-- The cells cs read as a value of type t. -/
def Reads (w : World) (t : TypeId) (cs : List Value) : Prop := ∃ (H : Type) (enc : TypeId × Value → H) (fuel : Nat) (x : DataW H × List MemPlace), DataW.trod enc Tryz.prog w 0 (fun _ => true) true fuel t cs = some x
/-- What the walk is told of an argument. -/
def Seen (w : World) (t : TypeId) (v : Value) : Prop := (∃ base, Value.okWide Tryz.prog w .any base t v) ∧ ∃ (H : Type) (enc : TypeId × Value → H) (d : DataW H) (p : List MemPlace), DataW.Trod enc Tryz.prog w 0 (fun _ => true) true t v d p

section
variable {w : World} {t e : TypeId} {v : Value} {cs : List Value}
theorem Seen.reads (h : Seen w t v) : Reads w t v.cells.toList := by
  obtain ⟨_, H, enc, d, p, fuel, hf⟩ := h
  exact ⟨H, enc, fuel, _, hf⟩
theorem Reads.int {k : IntKind} (ht : Tryz.prog.underlying t = some (.int k)) (h : Reads w t cs) : ∃ n, cs = [.int k n] ∧ (Lit.int k n).wf = true := by
  obtain ⟨H, enc, fuel, x, hx⟩ := h
  obtain ⟨n, h1, _, h2⟩ := DataW.trod_int ht hx
  exact ⟨n, h1, h2⟩
theorem Reads.bool (ht : Tryz.prog.underlying t = some .bool) (h : Reads w t cs) : ∃ b, cs = [.bool b] := by
  obtain ⟨H, enc, fuel, x, hx⟩ := h
  obtain ⟨n, h1, _⟩ := DataW.trod_bool ht hx
  exact ⟨n, h1⟩
theorem Reads.str (ht : Tryz.prog.underlying t = some .string) (h : Reads w t cs) : ∃ s : ByteArray, cs = [.string s] ∧ s.size ≤ maxLen := by
  obtain ⟨H, enc, fuel, x, hx⟩ := h
  obtain ⟨n, h1, _, h2⟩ := DataW.trod_string ht hx
  exact ⟨n, h1, h2⟩
theorem Reads.struct {fs : Array Field} (ht : Tryz.prog.underlying t = some (.struct fs)) (h : Reads w t cs) :
    cs.length = Tryz.prog.cellsOf t ∧ ∀ (i : Nat) (f : Field), fs[i]? = some f → Reads w f.type ((cs.drop f.offset).take (Tryz.prog.cellsOf f.type)) := by
  obtain ⟨H, enc, fuel, x, hx⟩ := h
  obtain ⟨xs, n, _, _, hl, hlen, hf⟩ := DataW.trod_struct ht hx
  refine ⟨hl, fun i f hi => ?_⟩
  have h1 := hf i f hi
  have hlt : i < fs.size := (Array.getElem?_eq_some_iff.1 hi).1
  rw [List.getElem?_eq_getElem (by omega)] at h1
  exact ⟨H, enc, n, _, h1⟩
/-- A slice: each of its elements lies where it should, and reads as one. sz: the cells of an element. -/
theorem Reads.slice {sz : Nat} (ht : Tryz.prog.underlying t = some (.slice e)) (hc : Tryz.prog.cellsOf e = sz) (h0 : 0 < sz) (h : Reads w t cs) :
    ∃ a len cap, cs = [.slice a len cap] ∧ len ≤ cap ∧ cap ≤ maxLen ∧ ∀ i, i < len → ∃ b off cs', a = some ⟨b, off, none⟩ ∧ b < w.heap.size ∧ cs'.length = sz ∧ (∀ j, j < sz → w.cell? ⟨b, off + i * sz + j, none⟩ = cs'[j]?) ∧ Reads w e cs' := by
  obtain ⟨H, enc, fuel, x, hx⟩ := h
  rcases DataW.trod_slice ht hx with ⟨h1, _⟩ | ⟨a, len, cap, elems, rest, n, _, h1, _, _, hl, hm, hlen, hel, _, _⟩
  · exact ⟨none, 0, 0, h1, Nat.le_refl _, Nat.zero_le _, fun i hi => absurd hi (Nat.not_lt_zero _)⟩
  · refine ⟨some a, len, cap, h1, hl, hm, fun i hi => ?_⟩
    have key := hel i hi
    rw [List.getElem?_eq_getElem (by omega)] at key
    obtain ⟨cs', h2, h3⟩ := Option.bind_eq_some_iff.1 key
    rw [hc] at h2
    obtain ⟨_, hlen', hcell⟩ := World.cells?_some h2
    have hs : a.spot = none := by
      have k0 := hel 0 (by omega)
      rw [List.getElem?_eq_getElem (by omega)] at k0
      obtain ⟨c0, g2, _⟩ := Option.bind_eq_some_iff.1 k0
      rw [hc] at g2
      obtain ⟨_, gl, gc⟩ := World.cells?_some g2
      have g3 := gc 0 h0
      rw [List.getElem?_eq_getElem (by omega)] at g3
      exact (by simpa [Addr.add] using World.cell?_spot g3)
    obtain ⟨b, off, spot⟩ := a
    have hspot : spot = none := hs
    subst hspot
    have hcell2 : ∀ j, j < sz → w.cell? ⟨b, off + i * sz + j, none⟩ = cs'[j]? := by
      intro j hj
      rw [← hcell j hj]
      congr 1
      unfold Addr.add
      by_cases e1 : i * sz = 0 <;> by_cases e2 : j = 0 <;> simp [e1, e2, Nat.add_assoc]
    have hb : b < w.heap.size := by
      have g := hcell2 0 h0
      rw [List.getElem?_eq_getElem (by omega)] at g
      exact lt_of_cell g
    exact ⟨b, off, cs', rfl, hb, hlen', hcell2, H, enc, n, _, h3⟩
theorem Seen.int {k : IntKind} (ht : Tryz.prog.underlying t = some (.int k)) (h : Seen w t v) : ∃ n, v = .int k n ∧ (Lit.int k n).wf = true := by
  obtain ⟨base, hv⟩ := h.1
  obtain ⟨n, rfl⟩ := Go.WideShapes.okWide_int ht hv
  obtain ⟨m, hm, hw⟩ := h.reads.int ht
  simp [Value.cells] at hm
  subst hm
  exact ⟨n, rfl, hw⟩
theorem Seen.bool (ht : Tryz.prog.underlying t = some .bool) (h : Seen w t v) : ∃ b, v = .bool b := by
  obtain ⟨base, hv⟩ := h.1
  exact Go.WideShapes.okWide_bool ht hv
theorem Seen.str (ht : Tryz.prog.underlying t = some .string) (h : Seen w t v) : ∃ s : ByteArray, v = .string s ∧ s.size ≤ maxLen := by
  obtain ⟨base, hv⟩ := h.1
  obtain ⟨n, rfl⟩ := Go.WideShapes.okWide_string ht hv
  obtain ⟨m, hm, hw⟩ := h.reads.str ht
  simp [Value.cells] at hm
  subst hm
  exact ⟨n, rfl, hw⟩
theorem Seen.struct {fs : Array Field} (ht : Tryz.prog.underlying t = some (.struct fs)) (h : Seen w t v) : ∃ cs : Array Value, v = .agg cs ∧ Reads w t cs.toList := by
  obtain ⟨base, hv⟩ := h.1
  obtain ⟨cs, rfl, _⟩ := Go.WideShapes.okWide_struct ht hv
  exact ⟨cs, rfl, by simpa [Value.cells] using h.reads⟩
theorem Seen.slice {sz : Nat} (ht : Tryz.prog.underlying t = some (.slice e)) (hc : Tryz.prog.cellsOf e = sz) (h0 : 0 < sz) (h : Seen w t v) :
    ∃ a len cap, v = .slice a len cap ∧ len ≤ cap ∧ cap ≤ maxLen ∧ ∀ i, i < len → ∃ b off cs', a = some ⟨b, off, none⟩ ∧ b < w.heap.size ∧ cs'.length = sz ∧ (∀ j, j < sz → w.cell? ⟨b, off + i * sz + j, none⟩ = cs'[j]?) ∧ Reads w e cs' := by
  obtain ⟨base, hv⟩ := h.1
  obtain ⟨a, len, cap, rfl⟩ := Go.WideShapes.okWide_slice ht hv
  obtain ⟨a', len', cap', hm, hr⟩ := h.reads.slice ht hc h0
  simp [Value.cells] at hm
  obtain ⟨rfl, rfl, rfl⟩ := hm
  exact ⟨a, len, cap, rfl, hr⟩
end

theorem Below.put {B : Nat} {w wr w2 : World} {S : Nat → Prop} (hb : Below B w wr) (hB : B ≤ w.heap.size) (hs : ∀ k, k < B → ¬ S k) (ho : Only S wr w2) : Below B w w2 :=
  hb.trans (ho.below (Nat.le_trans hB hb.size) hs)
theorem belowN {B n : Nat} {w w' : World} (h : Below B w w') : Below B w (w'.drewN n) := ⟨h.os, h.tape, h.output, h.size, h.block⟩
/-- a callee that reads and draws nothing, inside a region that draws -/
theorem quiet_eq {P : Program} {f : FuncId} {args : Array Value} {w : World} {n : Nat} {v : Value}
    (h : Calls P f args (w.drewN n) fun e w' => e = .returned v ∧ w.drewN n = w') : Calls P f args (w.drewN n) fun e w'' => e = .returned v ∧ ∃ m, w'' = w.drewN m :=
  Calls.quiet_of_same (h.mono fun _ _ ⟨a, b⟩ => ⟨a, b.symm⟩)
/-- a callee that reads and may draw, inside a region that draws -/
theorem quiet_n {P : Program} {f : FuncId} {args : Array Value} {w : World} {n : Nat} {v : Value}
    (h : Calls P f args (w.drewN n) fun e w' => e = .returned v ∧ ∃ m, w' = (w.drewN n).drewN m) : Calls P f args (w.drewN n) fun e w'' => e = .returned v ∧ ∃ m, w'' = w.drewN m :=
  Calls.quiet_of h

/-- n cells that hold z -/
def zeros (n : Nat) (z : Value) : Array Value := Array.replicate n z
theorem zeros_toList (n : Nat) (z : Value) : (zeros n z).toList = List.replicate n z := by simp [zeros]
theorem zeros_size (n : Nat) (z : Value) : (zeros n z).size = n := by simp [zeros]
/-- 'make([]T, n)', T of one cell: the very world. -/
theorem make_rep {P : Program} {t e : TypeId} {i : TypeInfo} {z : Value} {by_ : Nat} (ht : P.underlying t = some (.slice e)) (hi : P.info? e = some i) (hz : i.zero = some z) (h1 : i.size = 1) (hb : i.bytes = by_) (hc : z.cells = #[z]) (n : Nat)
    (hbytes : by_ * n ≤ 281474976710656) (hm : n ≤ 9223372036854775807) (w : World) :
    (Instr.makeSlice t (.int .i64 (n : Int)) (.int .i64 (n : Int))).run P w = .ok (.slice (some ⟨w.heap.size, 0, none⟩) n n) (w.alloc (.cells (zeros n z) e)) := by
  have h := run_make (P := P) w t e i z ht hi hz .i64 .i64 n n (by omega) (Int.le_refl _) (by rw [hb, ← Int.natCast_mul]; generalize by_ * n = p at *; omega) (by omega)
  rw [h]
  have e1 : madeCells z.cells ((n : Int).toNat * i.size) = zeros n z := by
    rw [h1, hc, zeros]
    apply Array.ext
    · simp [madeCells]
    · intro j hj hj2
      simp [madeCells, Nat.mod_one]
  rw [e1]
  simp

end Go.Proofs.YtpdhoojjcgohpaaGreat

namespace Go.Proofs.YtpdhoojjcgohpaaGreat
set_option maxRecDepth 4000
open Go.RowKit
set_option linter.unusedVariables false

theorem block_of_add (a : Addr) (n : Nat) : (a.add n).block = a.block := by unfold Addr.add; split <;> rfl
theorem add_of_add (a : Addr) (i j : Nat) : (a.add i).add j = a.add (i + j) := by
  unfold Addr.add
  by_cases hi : i = 0 <;> by_cases hj : j = 0 <;> simp [hi, hj, Nat.add_assoc]

def Row_ (w : World) (B size : Nat) (A : Option Addr) (n : Nat) (xs : List Value) : Prop :=
  xs.length = n * size ∧ (0 < n → ∃ ad, A = some ad ∧ ad.block < B ∧ ∀ j u, xs[j]? = some u → w.cell? (ad.add j) = some u)

section
variable {w w' : World} {B B' size n : Nat} {A : Option Addr} {xs : List Value}
theorem Row_.none_ : Row_ w B size A 0 [] := ⟨by simp, fun h => absurd h (by omega)⟩
theorem Row_.at_ {k : Nat} (h : Row_ w B 1 A n xs) (hk : k < n) : ∃ ad u, A = some ad ∧ ad.block < B ∧ xs[k]? = some u ∧ w.cell? (ad.add k) = some u := by
  obtain ⟨ad, e, hb, hc⟩ := h.2 (by omega)
  have hl : k < xs.length := by have := h.1; omega
  exact ⟨ad, xs[k], e, hb, List.getElem?_eq_getElem hl, hc k _ (List.getElem?_eq_getElem hl)⟩
theorem Row_.keep (h : Row_ w B size A n xs) (hk : ∀ p : Addr, p.block < B → w'.cell? p = w.cell? p) : Row_ w' B size A n xs :=
  ⟨h.1, fun hn => by
    obtain ⟨ad, e, hb, hc⟩ := h.2 hn
    exact ⟨ad, e, hb, fun j u hu => (hk _ (by rw [block_of_add]; exact hb)).trans (hc j u hu)⟩⟩
theorem Row_.more (h : Row_ w B size A n xs) (hB : B ≤ B') : Row_ w B' size A n xs :=
  ⟨h.1, fun hn => by
    obtain ⟨ad, e, hb, hc⟩ := h.2 hn
    exact ⟨ad, e, by omega, hc⟩⟩
theorem Row_.below (h : Row_ w B size A n xs) (hb : Below B w w') : Row_ w' B size A n xs := h.keep fun _ hp => hb.cell hp
theorem Row_.drew (h : Row_ w B size A n xs) : Row_ w.drew B size A n xs := h
theorem Row_.drewN (h : Row_ w B size A n xs) (k : Nat) : Row_ (w.drewN k) B size A n xs := h
theorem Row_.alloc (h : Row_ w B size A n xs) (hB : B ≤ w.heap.size) (o : Obj) : Row_ (w.alloc o) B size A n xs := h.keep fun p hp => World.cell?_alloc_lt w o p (by omega)
theorem Row_.setCell (h : Row_ w B size A n xs) {p : Addr} (hB : B ≤ p.block) (u : Value) : Row_ (w.setCell p u) B size A n xs :=
  h.keep fun q hq => World.cell?_setCell_other w p q u (fun e => by subst e; omega)
theorem Row_.grown (h : Row_ w B size A n xs) {row : Option Nat} (hg : w.grownBy w' row) (hB : B ≤ w.heap.size) (hr : ∀ g, row = some g → B ≤ g) : Row_ w' B size A n xs :=
  h.keep fun p hp => World.cell?_of_block (hg.block p.block (by omega) (fun e => by have := hr _ e.symm; omega))
theorem Row_.cut (h : Row_ w B size A n xs) {k cap : Nat} (hk : k ≤ n) (hc : n ≤ cap) :
    Row_ w B size (if cap = k then A else A.map (·.add (k * size))) (n - k) (xs.drop (k * size)) := by
  refine ⟨by rw [List.length_drop, h.1, Nat.sub_mul], fun hn => ?_⟩
  obtain ⟨ad, rfl, hb, hcell⟩ := h.2 (by omega)
  rw [if_neg (by omega)]
  refine ⟨ad.add (k * size), rfl, by rw [block_of_add]; exact hb, fun j u hu => ?_⟩
  rw [add_of_add]
  exact hcell _ u (by rw [← hu, List.getElem?_drop])
theorem Row_.of_own {base : Nat} {e : TypeId} {c : Nat} (h : w.ownsRow base e size (.slice A n c) n xs) : Row_ w w.heap.size size A n xs := by
  refine ⟨h.1, fun hn => ?_⟩
  obtain ⟨g, cap, hv, _, hlt⟩ := h.form hn
  have hA : A = some ⟨g, 0, none⟩ := by injection hv
  subst hA
  exact ⟨_, rfl, hlt, h.cells (g := g) rfl⟩
end

section
variable {P : Program} (w : World)

theorem run_append_of_nil (base : Nat) (t ty e : TypeId) (i : TypeInfo) (size : Nat) (ht : P.underlying t = some (.slice e)) (hi : P.info? e = some i)
    (v : Value) (n : Nat) (xs : List Value) (hown : w.ownsRow base e size v n xs) (c : Nat) : (Builtin.append_ #[t, t] ty #[v, .slice none 0 c]).run P w = .ok v w := by
  rcases hown.2 with ⟨rfl, rfl⟩ | ⟨g, cap, cur, rfl, _, _, hnc, _⟩
  · simp [Builtin.append_, run_underlying ht, sizeOf, typeInfo, hi, Builtin.lenOf, Builtin.firstCells]
  · simp [Builtin.append_, run_underlying ht, sizeOf, typeInfo, hi, Builtin.lenOf, Builtin.firstCells, hnc, storeCells]

theorem run_append_any (base : Nat) (t ty e : TypeId) (i : TypeInfo) (z : Value) (size bytes : Nat) (ht : P.underlying t = some (.slice e)) (hi : P.info? e = some i) (hz : i.zero = some z)
    (hsize : i.size = size) (hby : i.bytes = bytes) (hzs : z.cells.size = size) (hsz : 0 < size)
    (v : Value) (n : Nat) (xs : List Value) (hown : w.ownsRow base e size v n xs)
    (B : Nat) (A : Option Addr) (m c : Nat) (news : List Value) (hr : Row_ w B size A m news) (h1 : ∀ u ∈ news, u.oneCell' = true)
    (h63 : n + m ≤ maxLen) (hbytes : (n + m) * bytes ≤ 140737488355328) (hbase : base ≤ w.heap.size) :
    ∃ v' w', (Builtin.append_ #[t, t] ty #[v, .slice A m c]).run P w = .ok v' w' ∧ w'.ownsRow base e size v' (n + m) (xs ++ news) ∧ w.grownBy w' v.ownBlock ∧
      (v'.ownBlock = v.ownBlock ∨ v'.ownBlock = some w.heap.size) := by
  rcases A with _ | ad
  · have hm : m = 0 := by
      rcases Nat.eq_zero_or_pos m with h0 | h0
      · exact h0
      · obtain ⟨ad, h, _⟩ := hr.2 h0
        cases h
    subst hm
    have hn : news = [] := List.eq_nil_of_length_eq_zero (by simpa using hr.1)
    subst hn
    exact ⟨v, w, run_append_of_nil w base t ty e i size ht hi v n xs hown c, by simpa using hown, World.grownBy.refl w _, .inl rfl⟩
  · have hcells : ∀ j u, news[j]? = some u → w.cell? (ad.add j) = some u := by
      intro j u hu
      rcases Nat.eq_zero_or_pos m with h0 | h0
      · subst h0
        have hn : news = [] := List.eq_nil_of_length_eq_zero (by simpa using hr.1)
        subst hn
        simp at hu
      · obtain ⟨ad', h, _, hc⟩ := hr.2 h0
        injection h with h
        subst h
        exact hc j u hu
    obtain ⟨v', w', hrun, h2, h3, _, h5⟩ := run_append_own_at (P := P) w base t ty e i z size bytes ht hi hz hsize hby hzs hsz v n xs hown ad m c news hr.1 hcells h1 h63 hbytes hbase
    exact ⟨v', w', hrun, h2, h3, h5⟩

theorem wp_append_any {o : Oper} {a : Act} {K : Act → World → Prop} {Q : Exit → Act → World → Prop} (s x : Operand) (t : TypeId)
    (ho : o.op = .call { callee := .builtin .append, args := #[s, x], argTypes := #[t, t] })
    (base : Nat) (e : TypeId) (i : TypeInfo) (z : Value) (size bytes : Nat) (ht : P.underlying t = some (.slice e)) (hi : P.info? e = some i) (hz : i.zero = some z)
    (hsize : i.size = size) (hby : i.bytes = bytes) (hzs : z.cells.size = size) (hsz : 0 < size)
    (v : Value) (n : Nat) (xs : List Value) (hs : a.eval s = v) (hown : w.ownsRow base e size v n xs)
    (B : Nat) (A : Option Addr) (m c : Nat) (news : List Value) (hx : a.eval x = .slice A m c) (hr : Row_ w B size A m news) (h1 : ∀ u ∈ news, u.oneCell' = true)
    (h63 : n + m ≤ maxLen) (hbytes : (n + m) * bytes ≤ 140737488355328) (hbase : base ≤ w.heap.size)
    (h : ∀ v' w', w'.ownsRow base e size v' (n + m) (xs ++ news) → w.grownBy w' v.ownBlock → (v'.ownBlock = v.ownBlock ∨ v'.ownBlock = some w.heap.size) → K (a.put o.dst v') w') : o.wp P a w K Q := by
  obtain ⟨v', w', hrun, h2, h3, h4⟩ := run_append_any (P := P) w base t o.type e i z size bytes ht hi hz hsize hby hzs hsz v n xs hown B A m c news hr h1 h63 hbytes hbase
  unfold Oper.wp execOp
  simp only [ho, resolve, invoke, builtin, Sem.run_bind, Sem.run_pure, Result.andThen_ok, List.map_toArray, List.map_cons, List.map_nil, hs, hx, hrun]
  exact h v' w' h2 h3 h4

theorem wpList_append_any {ops : Array Oper} {rest : List Oper} {o : Oper} {a : Act} {Q : Exit → Act → World → Prop} (hgd : o.guard = none) (s x : Operand) (t : TypeId)
    (ho : o.op = .call { callee := .builtin .append, args := #[s, x], argTypes := #[t, t] })
    (base : Nat) (e : TypeId) (i : TypeInfo) (z : Value) (size bytes : Nat) (ht : P.underlying t = some (.slice e)) (hi : P.info? e = some i) (hz : i.zero = some z)
    (hsize : i.size = size) (hby : i.bytes = bytes) (hzs : z.cells.size = size) (hsz : 0 < size)
    (v : Value) (n : Nat) (xs : List Value) (hs : a.eval s = v) (hown : w.ownsRow base e size v n xs)
    (B : Nat) (A : Option Addr) (m c : Nat) (news : List Value) (hx : a.eval x = .slice A m c) (hr : Row_ w B size A m news) (h1 : ∀ u ∈ news, u.oneCell' = true)
    (h63 : n + m ≤ maxLen) (hbytes : (n + m) * bytes ≤ 140737488355328) (hbase : base ≤ w.heap.size)
    (h : ∀ v' w', w'.ownsRow base e size v' (n + m) (xs ++ news) → w.grownBy w' v.ownBlock → (v'.ownBlock = v.ownBlock ∨ v'.ownBlock = some w.heap.size) → wpList P ops Q rest (a.put o.dst v') w') : wpList P ops Q (o :: rest) a w :=
  wpList_plain hgd fun _ hK => wp_append_any w s x t ho base e i z size bytes ht hi hz hsize hby hzs hsz v n xs hs hown B A m c news hx hr h1 h63 hbytes hbase fun v' w' h2 h3 h4 => hK _ _ (h v' w' h2 h3 h4)

theorem step_append_any {ops : Array Oper} {o : Oper} {a : Act} {K : Act → World → Prop} {Q : Exit → Act → World → Prop} {E : Prop} (hgd : o.guard = none) (s x : Operand) (t : TypeId)
    (ho : o.op = .call { callee := .builtin .append, args := #[s, x], argTypes := #[t, t] })
    (base : Nat) (e : TypeId) (i : TypeInfo) (z : Value) (size bytes : Nat) (ht : P.underlying t = some (.slice e)) (hi : P.info? e = some i) (hz : i.zero = some z)
    (hsize : i.size = size) (hby : i.bytes = bytes) (hzs : z.cells.size = size) (hsz : 0 < size)
    (v : Value) (n : Nat) (xs : List Value) (hs : a.eval s = v) (hown : w.ownsRow base e size v n xs)
    (B : Nat) (A : Option Addr) (m c : Nat) (news : List Value) (hx : a.eval x = .slice A m c) (hr : Row_ w B size A m news) (h1 : ∀ u ∈ news, u.oneCell' = true)
    (h63 : n + m ≤ maxLen) (hbytes : (n + m) * bytes ≤ 140737488355328) (hbase : base ≤ w.heap.size)
    (h : ∀ v' w', w'.ownsRow base e size v' (n + m) (xs ++ news) → w.grownBy w' v.ownBlock → (v'.ownBlock = v.ownBlock ∨ v'.ownBlock = some w.heap.size) → K (a.put o.dst v') w') :
    if Region.wanted o (yielded ops a.tmps) = true then Oper.wp P o a w K Q else E := by
  have hw : Region.wanted o (yielded ops a.tmps) = true := by simp [Region.wanted, hgd]
  rw [if_pos hw]
  exact wp_append_any w s x t ho base e i z size bytes ht hi hz hsize hby hzs hsz v n xs hs hown B A m c news hx hr h1 h63 hbytes hbase h
end

/-- where a slice lies: 0: nowhere; else the number of its block and one -/
def bk : Option Addr → Nat
  | none => 0
  | some a => a.block + 1
@[simp] theorem bk_none : bk none = 0 := rfl
@[simp] theorem bk_some (a : Addr) : bk (some a) = a.block + 1 := rfl
theorem bk_own {A : Option Addr} {n c g : Nat} : (Value.slice A n c).ownBlock = some g ↔ g + 1 = bk A := by
  cases A <;> simp [Value.ownBlock, bk]; omega

section
variable {w w' : World} {B e sz n c : Nat} {A : Option Addr} {xs : List Value} {S : Nat → Prop}
theorem own_nil (w : World) (B : Nat) (e : TypeId) (sz : Nat) : w.ownsRow B e sz (.slice none 0 0) 0 [] := ⟨by simp, .inl ⟨rfl, rfl⟩⟩
theorem own_lt (h : w.ownsRow B e sz (.slice A n c) n xs) : bk A ≤ w.heap.size := by
  cases A with
  | none => simp
  | some a => have := (h.lt a.block rfl).2; simp; omega
theorem own_ge (h : w.ownsRow B e sz (.slice A n c) n xs) (h0 : 0 < bk A) : B < bk A := by
  cases A with
  | none => simp at h0
  | some a => have := (h.lt a.block rfl).1; simp; omega
theorem own_only (h : w.ownsRow B e sz (.slice A n c) n xs) (ho : Only S w w') (hn : ∀ k, k + 1 = bk A → ¬ S k) : w'.ownsRow B e sz (.slice A n c) n xs := by
  refine ⟨h.1, ?_⟩
  rcases h.2 with h2 | ⟨g, cap, cur, hv, hb, hg, hr⟩
  · exact .inl h2
  · refine .inr ⟨g, cap, cur, hv, hb, ?_, hr⟩
    have hA : A = some ⟨g, 0, none⟩ := by injection hv
    rw [ho.block g (by have := own_lt h; rw [hA] at this; simp at this; omega) (hn g (by rw [hA]; rfl))]
    exact hg
theorem own_drew (h : w.ownsRow B e sz (.slice A n c) n xs) : w.drew.ownsRow B e sz (.slice A n c) n xs := h
theorem own_drewN (h : w.ownsRow B e sz (.slice A n c) n xs) (k : Nat) : (w.drewN k).ownsRow B e sz (.slice A n c) n xs := h
/-- the j-th cell -/
theorem own_at (h : w.ownsRow B e sz (.slice A n c) n xs) {j : Nat} (hj : j < n * sz) : ∃ g, A = some ⟨g, 0, none⟩ ∧ w.cell? ⟨g, j, none⟩ = xs[j]? := by
  rcases h.2 with ⟨h2, h3⟩ | ⟨g, cap, cur, hv, hb, hg, hr⟩
  · subst h3; simp at hj
  · have hA : A = some ⟨g, 0, none⟩ := by injection hv
    subst hA
    exact ⟨g, rfl, h.cellAt j hj⟩
theorem own_row (h : w.ownsRow B e sz (.slice A n c) n xs) : Row_ w w.heap.size sz A n xs := Row_.of_own h
end

/-- 'append(s, x)', x of one cell: the one new cell lies in a block of its own. -/
theorem wpList_app1 {P : Program} (w : World) {ops : Array Oper} {rest : List Oper} {o : Oper} {a : Act} {Q : Exit → Act → World → Prop} (hgd : o.guard = none) (s x : Operand) (t : TypeId)
    (ho : o.op = .call { callee := .builtin .append, args := #[s, x], argTypes := #[t, t] })
    (base : Nat) (e : TypeId) (i : TypeInfo) (z : Value) (bytes : Nat) (ht : P.underlying t = some (.slice e)) (hi : P.info? e = some i) (hz : i.zero = some z)
    (hsize : i.size = 1) (hby : i.bytes = bytes) (hzs : z.cells.size = 1)
    (A : Option Addr) (n c : Nat) (xs : List Value) (hs : a.eval s = .slice A n c) (hown : w.ownsRow base e 1 (.slice A n c) n xs)
    (g : Nat) (u : Value) (hx : a.eval x = .slice (some ⟨g, 0, none⟩) 1 1) (hu : w.cell? ⟨g, 0, none⟩ = some u) (h1 : u.oneCell' = true)
    (h63 : n + 1 ≤ 1000000000) (hbytes : bytes ≤ 100000) (hbase : base ≤ w.heap.size)
    (h : ∀ A' c' w', w'.ownsRow base e 1 (.slice A' (n + 1) c') (n + 1) (xs ++ [u]) → Only (fun k => k + 1 = bk A) w w' → (bk A' = bk A ∨ bk A' = w.heap.size + 1) → wpList P ops Q rest (a.put o.dst (.slice A' (n + 1) c')) w') : wpList P ops Q (o :: rest) a w := by
  have hb2 : (n + 1) * bytes ≤ 140737488355328 := Nat.le_trans (Nat.mul_le_mul h63 hbytes) (by decide)
  refine wpList_append_any w hgd s x t ho base e i z 1 bytes ht hi hz hsize hby hzs (by decide) (.slice A n c) n xs hs hown (g + 1) (some ⟨g, 0, none⟩) 1 1 [u] hx
    ⟨rfl, fun _ => ⟨_, rfl, Nat.lt_succ_self g, fun j v hv => ?_⟩⟩ (by simpa using h1) (by unfold maxLen; omega) hb2 hbase ?_
  · match j, hv with
    | 0, hv => simpa [Addr.add] using hu.trans hv
  · intro v' w' hown' hg' hat
    have ho' : Only (fun k => k + 1 = bk A) w w' := (Only.refl _ _).of_grown hg' (fun k hk _ => bk_own.1 hk)
    rcases hown'.2 with ⟨_, h3⟩ | ⟨g', cap, cur, rfl, _⟩
    · omega
    · refine h _ _ _ hown' ho' ?_
      rcases hat with e1 | e1
      · left
        cases A with
        | none => simp [Value.ownBlock] at e1
        | some a0 => simp [Value.ownBlock] at e1; simp [e1]
      · right
        simp [Value.ownBlock] at e1
        simp [e1]

/-- 'append(s, ys...)', of any slice that reads as a list. -/
theorem wpList_appN {P : Program} (w : World) {ops : Array Oper} {rest : List Oper} {o : Oper} {a : Act} {Q : Exit → Act → World → Prop} (hgd : o.guard = none) (s x : Operand) (t : TypeId)
    (ho : o.op = .call { callee := .builtin .append, args := #[s, x], argTypes := #[t, t] })
    (base : Nat) (e : TypeId) (i : TypeInfo) (z : Value) (size bytes : Nat) (ht : P.underlying t = some (.slice e)) (hi : P.info? e = some i) (hz : i.zero = some z)
    (hsize : i.size = size) (hby : i.bytes = bytes) (hzs : z.cells.size = size) (hsz : 0 < size)
    (A : Option Addr) (n c : Nat) (xs : List Value) (hs : a.eval s = .slice A n c) (hown : w.ownsRow base e size (.slice A n c) n xs)
    (B : Nat) (A2 : Option Addr) (m c2 : Nat) (ys : List Value) (hx : a.eval x = .slice A2 m c2) (hr : Row_ w B size A2 m ys) (h1 : ∀ u ∈ ys, u.oneCell' = true)
    (h63 : n + m ≤ 1000000000) (hbytes : bytes ≤ 100000) (hbase : base ≤ w.heap.size)
    (h : ∀ A' c' w', w'.ownsRow base e size (.slice A' (n + m) c') (n + m) (xs ++ ys) → Only (fun k => k + 1 = bk A) w w' → (bk A' = bk A ∨ bk A' = w.heap.size + 1) → wpList P ops Q rest (a.put o.dst (.slice A' (n + m) c')) w') : wpList P ops Q (o :: rest) a w := by
  have hb2 : (n + m) * bytes ≤ 140737488355328 := Nat.le_trans (Nat.mul_le_mul h63 hbytes) (by decide)
  refine wpList_append_any w hgd s x t ho base e i z size bytes ht hi hz hsize hby hzs hsz (.slice A n c) n xs hs hown B A2 m c2 ys hx hr h1 (by unfold maxLen; omega) hb2 hbase ?_
  intro v' w' hown' hg' hat
  have ho' : Only (fun k => k + 1 = bk A) w w' := (Only.refl _ _).of_grown hg' (fun k hk _ => bk_own.1 hk)
  have fin : ∀ A' c', v' = .slice A' (n + m) c' → wpList P ops Q rest (a.put o.dst v') w' := by
    intro A' c' hv
    subst hv
    refine h _ _ _ hown' ho' ?_
    rcases hat with e1 | e1
    · left
      cases A with
      | none => cases A' with
        | none => rfl
        | some b => simp [Value.ownBlock] at e1
      | some a0 => cases A' with
        | none => simp [Value.ownBlock] at e1
        | some b => simp [Value.ownBlock] at e1; simp [e1]
    · right
      cases A' with
      | none => simp [Value.ownBlock] at e1
      | some b => simp [Value.ownBlock] at e1; simp [e1]
  rcases hown'.2 with ⟨hv, h3⟩ | ⟨g', cap, cur, hv, _⟩
  · exact fin none 0 (by rw [hv, h3])
  · exact fin _ _ hv

theorem own_empty (w : World) (B g : Nat) (e : TypeId) (sz : Nat) (h : Blk w g e #[]) (hB : B ≤ g) : w.ownsRow B e sz (.slice (some ⟨g, 0, none⟩) 0 0) 0 [] :=
  ⟨by simp, .inr ⟨g, 0, #[], rfl, hB, h, Nat.le_refl _, Nat.zero_le _, by simp, by simp⟩⟩

/-- 'append([]T{}, ys...)', 'append(nil, ys...)': a copy. -/
theorem wpList_clone {P : Program} (w : World) {ops : Array Oper} {rest : List Oper} {o : Oper} {a : Act} {Q : Exit → Act → World → Prop} (hgd : o.guard = none) (s x : Operand) (t : TypeId)
    (ho : o.op = .call { callee := .builtin .append, args := #[s, x], argTypes := #[t, t] })
    (base : Nat) (e : TypeId) (i : TypeInfo) (z : Value) (size bytes : Nat) (ht : P.underlying t = some (.slice e)) (hi : P.info? e = some i) (hz : i.zero = some z)
    (hsize : i.size = size) (hby : i.bytes = bytes) (hzs : z.cells.size = size) (hsz : 0 < size)
    (A : Option Addr) (c : Nat) (hs : a.eval s = .slice A 0 c) (hown : w.ownsRow base e size (.slice A 0 c) 0 [])
    (B : Nat) (A2 : Option Addr) (m c2 : Nat) (ys : List Value) (hx : a.eval x = .slice A2 m c2) (hr : Row_ w B size A2 m ys) (h1 : ∀ u ∈ ys, u.oneCell' = true)
    (h63 : m ≤ 1000000000) (hbytes : bytes ≤ 100000) (hbase : base ≤ w.heap.size)
    (h : ∀ A' c' w', w'.ownsRow base e size (.slice A' m c') m ys → Only (fun k => k + 1 = bk A) w w' → (bk A' = bk A ∨ bk A' = w.heap.size + 1) → wpList P ops Q rest (a.put o.dst (.slice A' m c')) w') : wpList P ops Q (o :: rest) a w :=
  wpList_appN w hgd s x t ho base e i z size bytes ht hi hz hsize hby hzs hsz A 0 c [] hs hown B A2 m c2 ys hx hr h1 (by omega) hbytes hbase fun A' c' w' h2 h3 h4 => by
    rw [Nat.zero_add] at h2 ⊢
    exact h A' c' w' h2 h3 h4

theorem one_int {al : List Int} {k : IntKind} : ∀ u ∈ al.map (Value.int k), u.oneCell' = true := by
  intro u hu
  obtain ⟨x, _, rfl⟩ := List.mem_map.1 hu
  rfl
theorem one_str {al : List ByteArray} : ∀ u ∈ al.map Value.string, u.oneCell' = true := by
  intro u hu
  obtain ⟨x, _, rfl⟩ := List.mem_map.1 hu
  rfl

theorem own_blk {w : World} {B e sz n c : Nat} {A : Option Addr} {xs : List Value} (h : w.ownsRow B e sz (.slice A n c) n xs) {g : Nat} (hg : g + 1 = bk A) : ∃ cs, Blk w g e cs := by
  rcases h.2 with ⟨h2, _⟩ | ⟨g', cap, cur, hv, hb, hgg, hr⟩
  · have hA : A = none := by injection h2
    subst hA; simp at hg
  · have hA : A = some ⟨g', 0, none⟩ := by injection hv
    subst hA
    have : g = g' := by simpa using hg
    subst this
    exact ⟨_, hgg⟩
theorem own_ne {w : World} {B e sz n c t g : Nat} {A : Option Addr} {xs : List Value} {cs : Array Value} (h : w.ownsRow B e sz (.slice A n c) n xs) (hb : Blk w g t cs) (ht : t ≠ e) : bk A ≠ g + 1 := by
  intro e1
  obtain ⟨cs', h2⟩ := own_blk h e1.symm
  exact hb.ne_ h2 ht rfl

theorem own_mono {w : World} {B B' e sz n c : Nat} {A : Option Addr} {xs : List Value} (h : w.ownsRow B e sz (.slice A n c) n xs) (hb : B' ≤ B) : w.ownsRow B' e sz (.slice A n c) n xs := by
  refine ⟨h.1, ?_⟩
  rcases h.2 with h2 | ⟨g, cap, cur, hv, h1, h2⟩
  · exact .inl h2
  · exact .inr ⟨g, cap, cur, hv, Nat.le_trans hb h1, h2⟩
theorem own_set {w : World} {B e n c g : Nat} {xs : List Value} {u : Value} (h : w.ownsRow B e 1 (.slice (some ⟨g, 0, none⟩) n c) n xs) (j : Nat) : (w.setCell ⟨g, j, none⟩ u).ownsRow B e 1 (.slice (some ⟨g, 0, none⟩) n c) n (xs.set j u) := (h.stored j u).1
end Go.Proofs.YtpdhoojjcgohpaaGreat

namespace Go.Proofs.YtpdhoojjcgohpaaGreat
set_option maxRecDepth 4000
open Go.RowKit
set_option linter.unusedVariables false

/-- the i-th byte -/
def gb (b : List Int) (i : Nat) : Int := b.getD i 0
theorem gb_set_same {L : List Int} {i : Nat} (h : i < L.length) (x : Int) : gb (L.set i x) i = x := by
  unfold gb; rw [List.getD_eq_getElem?_getD, List.getElem?_set_self h]; rfl
theorem gb_set_ne {L : List Int} {i j : Nat} (h : i ≠ j) (x : Int) : gb (L.set i x) j = gb L j := by
  unfold gb; rw [List.getD_eq_getElem?_getD, List.getElem?_set_ne h, ← List.getD_eq_getElem?_getD]
theorem gb_drop (cs : List Int) (k j : Nat) : gb (cs.drop k) j = gb cs (k + j) := by simp [gb, List.getD_eq_getElem?_getD, List.getElem?_drop]
theorem gb_take {cs : List Int} {k j : Nat} (h : j < k) : gb (cs.take k) j = gb cs j := by simp [gb, List.getD_eq_getElem?_getD, h]
theorem gb_getElem {cs : List Int} {j : Nat} (h : j < cs.length) : gb cs j = cs[j] := by simp [gb, List.getD_eq_getElem?_getD, List.getElem?_eq_getElem h]
/-- bytes, all of them -/
def AllB (cs : List Int) : Prop := ∀ j, 0 ≤ gb cs j ∧ gb cs j ≤ 255
theorem AllB.nil : AllB [] := fun j => by simp [gb]
theorem AllB.take {cs : List Int} (k : Nat) (h : AllB cs) : AllB (cs.take k) := by
  intro j
  by_cases hj : j < k
  · rw [gb_take hj]; exact h j
  · simp [gb, List.getD_eq_getElem?_getD, List.getElem?_take, hj]
theorem AllB.drop {cs : List Int} (k : Nat) (h : AllB cs) : AllB (cs.drop k) := fun j => by rw [gb_drop]; exact h _
theorem AllB.app {a b : List Int} (h : AllB a) (k : AllB b) : AllB (a ++ b) := by
  intro j
  unfold gb
  rw [List.getD_eq_getElem?_getD]
  by_cases hj : j < a.length
  · rw [List.getElem?_append_left hj, ← List.getD_eq_getElem?_getD]; exact h j
  · rw [List.getElem?_append_right (by omega), ← List.getD_eq_getElem?_getD]; exact k _
theorem AllB.one {c : Int} (h : 0 ≤ c ∧ c ≤ 255) : AllB [c] := by
  intro j
  cases j with
  | zero => simpa [gb] using h
  | succ j => simp [gb]
theorem AllB.of_mem {cs : List Int} (h : ∀ c ∈ cs, 0 ≤ c ∧ c ≤ 255) : AllB cs := by
  intro j
  by_cases hj : j < cs.length
  · rw [gb_getElem hj]; exact h _ (List.getElem_mem _)
  · simp [gb, List.getD_eq_getElem?_getD, List.getElem?_eq_none (show cs.length ≤ j by omega)]
theorem AllB.mem {cs : List Int} (h : AllB cs) : ∀ c ∈ cs, 0 ≤ c ∧ c ≤ 255 := by
  intro c hc
  obtain ⟨i, hi, rfl⟩ := List.getElem_of_mem hc
  rw [← gb_getElem hi]; exact h i
theorem AllB.set {cs : List Int} (i : Nat) {c : Int} (h : AllB cs) (hc : 0 ≤ c ∧ c ≤ 255) : AllB (cs.set i c) := by
  intro j
  by_cases e : i = j
  · subst e
    by_cases hi : i < cs.length
    · rw [gb_set_same hi]; exact hc
    · rw [List.set_eq_of_length_le (by omega)]; exact h i
  · rw [gb_set_ne e]; exact h j

/-- a slice of bytes -/
structure Byt (w : World) (A : Option Addr) (n : Nat) (cs : List Int) : Prop where
  len : cs.length = n
  bd : AllB cs
  at_ : 0 < n → ∃ b off, A = some ⟨b, off, none⟩ ∧ ∀ j, j < n → w.cell? ⟨b, off + j, none⟩ = some (.int .u8 (gb cs j))
theorem Byt.zero (w : World) (A : Option Addr) : Byt w A 0 [] := ⟨rfl, AllB.nil, fun h => absurd h (by omega)⟩
theorem Byt.mem {w : World} {A : Option Addr} {n : Nat} {cs : List Int} (h : Byt w A n cs) : ∀ c ∈ cs, 0 ≤ c := fun c hc => (h.bd.mem c hc).1
theorem Byt.cut {w : World} {b off n k : Nat} {cs : List Int} (h : Byt w (some ⟨b, off, none⟩) n cs) (hk : k ≤ n) : Byt w (some ⟨b, off + k, none⟩) (n - k) (cs.drop k) :=
  ⟨by rw [List.length_drop, h.len], h.bd.drop k, fun hn => ⟨b, off + k, rfl, fun j hj => by
    obtain ⟨b', off', e, hc⟩ := h.at_ (by omega)
    simp only [Option.some.injEq, Addr.mk.injEq, and_true] at e
    obtain ⟨rfl, rfl⟩ := e
    rw [gb_drop, Nat.add_assoc]
    exact hc (k + j) (by omega)⟩⟩
theorem Byt.cutM {w : World} {A : Option Addr} {n k : Nat} {cs : List Int} (h : Byt w A n cs) (hk : k ≤ n) : Byt w (A.map (·.add k)) (n - k) (cs.drop k) := by
  rcases Nat.eq_zero_or_pos n with h0 | h0
  · subst h0
    have e : cs = [] := List.eq_nil_of_length_eq_zero h.len
    subst e
    exact ⟨by simp, by simpa using AllB.nil, fun h => absurd h (by omega)⟩
  · obtain ⟨b, off, rfl, _⟩ := h.at_ h0
    have e : Option.map (fun x : Addr => x.add k) (some ⟨b, off, none⟩) = some ⟨b, off + k, none⟩ := by simp only [Option.map_some, Addr.add]; split <;> simp_all
    rw [e]
    exact h.cut hk
theorem Byt.end_ {w : World} {A B : Option Addr} {n k : Nat} {cs : List Int} (h : Byt w A n cs) (hk : k = n) : Byt w B (n - k) (cs.drop k) := by
  subst hk
  have e : cs.drop k = [] := List.drop_eq_nil_of_le (by have := h.len; omega)
  rw [e, Nat.sub_self]
  exact Byt.zero _ _
theorem Byt.take {w : World} {A : Option Addr} {n m : Nat} {cs : List Int} (h : Byt w A n cs) (hm : m ≤ n) : Byt w A m (cs.take m) :=
  ⟨by rw [List.length_take, h.len]; omega, h.bd.take m, fun h0 => by
    obtain ⟨b, off, e, hc⟩ := h.at_ (by omega)
    exact ⟨b, off, e, fun j hj => by rw [gb_take hj]; exact hc j (by omega)⟩⟩
theorem Byt.lt {w : World} {A : Option Addr} {n : Nat} {cs : List Int} (h : Byt w A n cs) (hn : 0 < n) : 0 < bk A ∧ bk A ≤ w.heap.size := by
  obtain ⟨b, off, rfl, hc⟩ := h.at_ hn
  have := lt_of_cell (hc 0 hn)
  simp only [bk_some]
  exact ⟨Nat.succ_pos _, this⟩
theorem Byt.only {w w' : World} {A : Option Addr} {n : Nat} {cs : List Int} {S : Nat → Prop} (h : Byt w A n cs) (ho : Only S w w') (hs : 0 < n → ∀ k, k + 1 = bk A → ¬ S k) : Byt w' A n cs :=
  ⟨h.len, h.bd, fun hn => by
    obtain ⟨b, off, rfl, hc⟩ := h.at_ hn
    exact ⟨b, off, rfl, fun j hj => (ho.cell (p := ⟨b, off + j, none⟩) (lt_of_cell (hc j hj)) (hs hn b rfl)).trans (hc j hj)⟩⟩
theorem Byt.below {w w' : World} {A : Option Addr} {n B : Nat} {cs : List Int} (h : Byt w A n cs) (hb : Below B w w') (hs : 0 < n → bk A ≤ B) : Byt w' A n cs :=
  h.only (Only.of_below hb) (fun hn k hk e => by have := hs hn; omega)
theorem Byt.drewN {w : World} {A : Option Addr} {n : Nat} {cs : List Int} (h : Byt w A n cs) (k : Nat) : Byt (w.drewN k) A n cs := ⟨h.len, h.bd, h.at_⟩
theorem Byt.of_own {w : World} {B : Nat} {A : Option Addr} {n c : Nat} {cs : List Int} (h : w.ownsRow B 5 1 (.slice A n c) n (cs.map (Value.int .u8))) (hb : AllB cs) : Byt w A n cs := by
  have hl : cs.length = n := by have := h.1; simpa using this
  refine ⟨hl, hb, fun hn => ?_⟩
  obtain ⟨g, rfl, _⟩ := own_at h (j := 0) (by omega)
  refine ⟨g, 0, rfl, fun j hj => ?_⟩
  obtain ⟨g', e, hc⟩ := own_at h (j := j) (by omega)
  simp only [Option.some.injEq, Addr.mk.injEq, and_true] at e
  subst e
  rw [Nat.zero_add, hc, List.getElem?_map, List.getElem?_eq_getElem (by omega), gb_getElem (by omega)]
  rfl
/-- as append's laws ask for its source -/
theorem Byt.row {w : World} {A : Option Addr} {n B : Nat} {cs : List Int} (h : Byt w A n cs) (hB : w.heap.size ≤ B) : Row_ w B 1 A n (cs.map (Value.int .u8)) := by
  refine ⟨by simp [h.len], fun hn => ?_⟩
  obtain ⟨b, off, rfl, hc⟩ := h.at_ hn
  refine ⟨_, rfl, Nat.lt_of_lt_of_le (lt_of_cell (hc 0 hn)) hB, fun j u hu => ?_⟩
  have hj : j < cs.length := by
    have := (List.getElem?_eq_some_iff.1 hu).1
    simpa using this
  have e : (⟨b, off, none⟩ : Addr).add j = ⟨b, off + j, none⟩ := by unfold Addr.add; split <;> simp_all
  rw [e, hc j (by have := h.len; omega)]
  rw [List.getElem?_map, List.getElem?_eq_getElem hj] at hu
  rw [gb_getElem hj]
  exact hu
theorem one_u8 {cs : List Int} : ∀ u ∈ cs.map (Value.int .u8), u.oneCell' = true := one_int

/-! ### Strings -/
def codes (s : ByteArray) : List Int := s.data.toList.map fun b => (b.toNat : Int)
theorem codes_len (s : ByteArray) : (codes s).length = s.size := by unfold codes; rw [List.length_map]; rfl
theorem codes_bd (s : ByteArray) : AllB (codes s) := by
  refine AllB.of_mem fun c hc => ?_
  obtain ⟨b, _, rfl⟩ := List.mem_map.1 hc
  have := b.toNat_lt
  omega
theorem str_codes (s : ByteArray) : strOfNums (codes s) = s := by
  have h : (codes s).map (fun n : Int => UInt8.ofNat n.toNat) = s.data.toList := by
    unfold codes
    rw [List.map_map]
    conv => rhs; rw [← List.map_id s.data.toList]
    refine List.map_congr_left fun b _ => ?_
    simp
  unfold strOfNums
  rw [h]
theorem codes_str {cs : List Int} (h : AllB cs) : codes (strOfNums cs) = cs := by
  unfold codes
  rw [strOfNums_data, List.map_map]
  conv => rhs; rw [← List.map_id cs]
  refine List.map_congr_left fun c hc => ?_
  have := h.mem c hc
  simp only [Function.comp, id]
  rw [UInt8.toNat_ofNat_of_lt' (by simp [UInt8.size]; omega)]
  omega
theorem str_inj {a b : List Int} (ha : AllB a) (hb : AllB b) (h : strOfNums a = strOfNums b) : a = b := by
  rw [← codes_str ha, ← codes_str hb, h]
theorem codes_inj {s t : ByteArray} (h : codes s = codes t) : s = t := by rw [← str_codes s, ← str_codes t, h]
theorem str_size (cs : List Int) : (strOfNums cs).size = cs.length := strOfNums_size cs

/-- '[]byte(s)': the world behind it -/
theorem only_bytesWorld (w : World) (e : TypeId) (s : ByteArray) : Only (fun _ => False) w (Lib.bytesWorld w e s) :=
  ⟨rfl, rfl, rfl, by rw [Lib.bytesWorld_size]; omega, fun k hk _ => Lib.bytesWorld_at_old w e s k hk⟩
theorem byt_bytesWorld (w : World) (s : ByteArray) : Byt (Lib.bytesWorld w 5 s) (some ⟨w.heap.size, 0, none⟩) s.size (codes s) := by
  refine ⟨codes_len s, codes_bd s, fun hn => ⟨w.heap.size, 0, rfl, fun j hj => ?_⟩⟩
  rw [Nat.zero_add, Lib.bytesWorld_cell w 5 s j hj]
  have hj' : j < s.data.toList.length := hj
  unfold gb codes
  rw [List.getD_eq_getElem?_getD, List.getD_eq_getElem?_getD, List.getElem?_map, List.getElem?_eq_getElem hj']
  rfl
/-- 'string(b)' of any slice of bytes -/
theorem conv_bs {w : World} {A : Option Addr} {n c : Nat} {cs : List Int} (h : Byt w A n cs) (src dst : TypeId) (hs : Tryz.prog.underlying src = some (.slice 5)) (he : Tryz.prog.underlying 5 = some (.int .u8)) (hd : Tryz.prog.underlying dst = some .string) :
    (convert src dst (.slice A n c)).run Tryz.prog w = .ok (.string (strOfNums cs)) w := by
  rcases Nat.eq_zero_or_pos n with h0 | h0
  · subst h0
    have hcs : cs = [] := List.eq_nil_of_length_eq_zero h.len
    subst hcs
    cases A with
    | none =>
      have := run_convert_bytes_nil (P := Tryz.prog) w src 5 hs he 0 c dst hd
      rw [this]
      rfl
    | some a =>
      rw [run_convert_bytes_string w src dst 5 (some a) 0 c hs he hd, run_bytesToString w a 0 c [] (by simpa using run_loadCells_list (P := Tryz.prog) w a [] (by simp))]
      rfl
  · obtain ⟨b, off, rfl, hc⟩ := h.at_ h0
    exact run_convert_bytes_arg w src 5 hs he b off n c cs h.len (fun i hi => hc i hi) dst hd
/-- '[]byte("constant")' behind its literal row: the bytes -/
theorem byt_mark (w : World) (cs : List Int) (hb : AllB cs) (C : Array Value) (hC : C = (cs.map (Value.int .u8)).toArray) (f : Nat × Nat) : Byt (w.alloc (.cells C 5 f)) (some ⟨w.heap.size, 0, none⟩) cs.length cs := by
  refine ⟨rfl, hb, fun hn => ⟨w.heap.size, 0, rfl, fun j hj => ?_⟩⟩
  rw [Nat.zero_add, World.cell?_alloc_mark, hC]
  simp [gb, List.getD_eq_getElem?_getD, List.getElem?_eq_getElem hj]

/-- a parameter of bytes -/
theorem seen_bytes {w : World} {t : TypeId} {v : Value} (s : Seen w t v) (ht : Tryz.prog.underlying t = some (.slice 5)) : ∃ A n c cs, v = .slice A n c ∧ n ≤ c ∧ c ≤ maxLen ∧ Byt w A n cs := by
  obtain ⟨A, n, c, rfl, h1, h2, h3⟩ := s.slice (sz := 1) ht (by kernel_rfl) (by decide)
  have hx : ∀ i, i < n → ∃ b off x, A = some ⟨b, off, none⟩ ∧ w.cell? ⟨b, off + i, none⟩ = some (.int .u8 x) ∧ 0 ≤ x ∧ x ≤ 255 := by
    intro i hi
    obtain ⟨b, off, cs', rfl, hb, hl, hc, hr⟩ := h3 i hi
    obtain ⟨x, rfl, hw⟩ := hr.int (k := .u8) Tryz.underlying5
    have h0 := hc 0 (by decide)
    simp only [Nat.mul_one, Nat.add_zero, List.getElem?_cons_zero] at h0
    have hk : IntKind.u8.min ≤ x ∧ x ≤ IntKind.u8.max := by simpa [Lit.wf] using hw
    have e1 : IntKind.u8.min = 0 := by decide
    have e2 : IntKind.u8.max = 255 := by decide
    rw [e1, e2] at hk
    exact ⟨b, off, x, rfl, h0, hk.1, hk.2⟩
  rcases Nat.eq_zero_or_pos n with h0 | h0
  · subst h0
    exact ⟨A, 0, c, [], rfl, h1, h2, Byt.zero _ _⟩
  · obtain ⟨b, off, x0, rfl, _⟩ := hx 0 h0
    let f : Nat → Int := fun i => match w.cell? ⟨b, off + i, none⟩ with | some (.int _ x) => x | _ => 0
    have hf : ∀ i, i < n → w.cell? ⟨b, off + i, none⟩ = some (.int .u8 (f i)) ∧ 0 ≤ f i ∧ f i ≤ 255 := by
      intro i hi
      obtain ⟨b', off', x, e, hc, hk⟩ := hx i hi
      simp only [Option.some.injEq, Addr.mk.injEq, and_true] at e
      obtain ⟨rfl, rfl⟩ := e
      have : f i = x := by show (match w.cell? ⟨b, off + i, none⟩ with | some (.int _ x) => x | _ => 0) = x; rw [hc]
      rw [this]; exact ⟨hc, hk⟩
    have hl : ((List.range n).map f).length = n := by simp
    have hg : ∀ i, i < n → gb ((List.range n).map f) i = f i := fun i hi => by
      rw [gb_getElem (by rw [hl]; exact hi)]; simp
    refine ⟨_, n, c, (List.range n).map f, rfl, h1, h2, hl, AllB.of_mem fun y hy => ?_, fun _ => ⟨b, off, rfl, fun j hj => by rw [hg j hj]; exact (hf j hj).1⟩⟩
    obtain ⟨i, hi, rfl⟩ := List.mem_map.1 hy
    exact (hf i (by simpa using hi)).2
end Go.Proofs.YtpdhoojjcgohpaaGreat
