
/- Rows of many cells: a whole variable stored, a zero value. -/
import Derived.Test.YtpjienjofeiieaaMid
import Derived.Test.YtpjienjofeiieaaOct
import Derived.Test.YtpjienjofeiieaaStab
import Derived.Deep.MidRow
import Derived.Great.BuildSlice
namespace Go.Proofs.Ytpjienjofeiieaa
set_option maxRecDepth 4000
open Go.RowKit
set_option linter.unusedVariables false

/-- cells laid over others from 'o' on -/
def laid (cur : Array Value) : Nat → List Value → Array Value
  | _, [] => cur
  | o, v :: r => laid (cur.setIfInBounds o v) (o + 1) r
theorem laid_size : ∀ (vs : List Value) (cur : Array Value) (o : Nat), (laid cur o vs).size = cur.size
  | [], _, _ => rfl
  | v :: r, cur, o => by rw [laid, laid_size r]; simp
theorem laid_at : ∀ (vs : List Value) (cur : Array Value) (o i : Nat), i < cur.size → (laid cur o vs)[i]? = if o ≤ i ∧ i < o + vs.length then vs[i - o]? else cur[i]?
  | [], cur, o, i, hi => by rw [laid, if_neg (by simp only [List.length_nil]; omega)]
  | v :: r, cur, o, i, hi => by
    rw [laid, laid_at r _ (o + 1) i (by simpa using hi), Array.getElem?_setIfInBounds]
    by_cases h1 : o = i
    · subst h1
      rw [if_neg (by omega)]
      simp [hi]
    · rw [if_neg h1]
      by_cases h2 : o + 1 ≤ i ∧ i < o + 1 + r.length
      · rw [if_pos h2, if_pos (by simp; omega)]
        rw [show i - o = (i - (o + 1)) + 1 by omega, List.getElem?_cons_succ]
      · rw [if_neg h2, if_neg (by simp; omega)]
theorem laid_all {vs : List Value} {cur : Array Value} (h : cur.size = vs.length) : laid cur 0 vs = vs.toArray := by
  apply Array.ext_getElem?
  intro i
  by_cases hi : i < cur.size
  · rw [laid_at vs cur 0 i hi, if_pos (by omega)]
    simp
  · rw [Array.getElem?_eq_none (by rw [laid_size]; omega), Array.getElem?_eq_none (by simp; omega)]
theorem heap_setCells (b : Nat) : ∀ (vs : List Value) (o : Nat) (w : World) (cur : Array Value) (e : TypeId) (fr : Nat × Nat), w.heap[b]? = some (.cells cur e fr) → (w.setCells b o vs).heap[b]? = some (.cells (laid cur o vs) e fr)
  | [], _, _, _, _, _, h => h
  | v :: r, o, w, cur, e, fr, h => by
    rw [World.setCells, laid]
    exact heap_setCells b r (o + 1) _ _ e fr (by simp [World.setCell, Array.getElem?_modify, h])
theorem Blk.setCells {w : World} {g t : Nat} {cs : Array Value} (h : Blk w g t cs) {vs : List Value} (hl : cs.size = vs.length) : Blk (w.setCells g 0 vs) g t vs.toArray := by
  have := heap_setCells g vs 0 w cs t (0, 0) h
  rw [laid_all hl] at this
  exact this
theorem Blk.there {w : World} {g t n : Nat} {cs : Array Value} (h : Blk w g t cs) (hn : cs.size = n) : w.there g 0 n := fun j hj => by
  rw [Nat.zero_add]
  refine ⟨?_, h.frozen j⟩
  rw [h.cell j, Array.getElem?_eq_getElem (by omega)]
  rfl
theorem Blk.range {w : World} {g t : Nat} {cs : List Value} (h : Blk w g t cs.toArray) : w.rangeAt g 0 cs := fun j v hv => by
  rw [Nat.zero_add, h.cell j]
  simpa using hv
/-- a variable made and laid anew -/
theorem made_set (w : World) (n : Nat) (hn : w.heap.size = n) (t : TypeId) (z : Array Value) (vs : List Value) (hz : z.size = vs.length) :
    ∃ W, W = (w.alloc (.cells z t)).setCells n 0 vs ∧ W.heap.size = n + 1 ∧ Blk W n t vs.toArray ∧ Only (fun _ => False) w W ∧ (w.alloc (.cells z t)).there n 0 vs.length := by
  subst hn
  have hb := Blk.new w t z
  have ho := only_setCells w.heap.size vs 0 (w.alloc (.cells z t))
  have h1 : Only (fun _ => False) w (w.alloc (.cells z t)) := (Only.refl _ w).alloc _
  refine ⟨_, rfl, ?_, hb.setCells hz, h1.trans ho (fun i hi e => by omega), hb.there hz⟩
  have key : ∀ (vs : List Value) (o : Nat) (w : World) (b : Nat), (w.setCells b o vs).heap.size = w.heap.size := by
    intro vs
    induction vs with
    | nil => intro o w b; rfl
    | cons v r ih => intro o w b; rw [World.setCells, ih]; simp [World.setCell]
  rw [key]
  simp
theorem run_zero {t : TypeId} {z : Value} (h : (Try.prog.info? t).map (·.zero) = some (some z)) (w : World) : (zeroValue t).run Try.prog w = .ok z w := by
  cases hi : Try.prog.info? t with
  | none => rw [hi] at h; cases h
  | some i =>
    rw [hi] at h
    have hz : i.zero = some z := by simpa using h
    simp [zeroValue, Sem.run_bind, typeInfo, hi, hz]
theorem laid_app : ∀ (a : List Value) (cur : Array Value) (o : Nat) (b : List Value), laid (laid cur o a) (o + a.length) b = laid cur o (a ++ b)
  | [], cur, o, b => rfl
  | v :: a, cur, o, b => by
    rw [laid, List.cons_append, laid, List.length_cons, show o + (a.length + 1) = o + 1 + a.length by omega]
    exact laid_app a _ (o + 1) b
theorem fold_laid (off : Nat) : ∀ (vs : List Value) (k : Nat) (cells : Array Value), (vs.zipIdx k).foldl (fun cs (x : Value × Nat) => cs.setIfInBounds (off + x.2) x.1) cells = laid cells (off + k) vs
  | [], _, _ => rfl
  | v :: vs, k, cells => by
    rw [List.zipIdx_cons, List.foldl_cons, laid]
    exact fold_laid off vs (k + 1) _
theorem fill_laid (place : Nat → Option (Nat × Nat)) (cells : Array Value) (i off : Nat) (v : Value) (vs : List Value) (rest : List (Nat × Value)) (hv : v.cells = vs.toArray) (hp : place i = some (off, vs.length)) (hs : off + vs.length ≤ cells.size) :
    Instr.fill place cells ((i, v) :: rest) = Instr.fill place (laid cells off vs) rest := by
  rw [Instr.fill, hp]
  simp only [hv, List.size_toArray]
  rw [if_neg (by simp; omega)]
  congr 1
  have := fold_laid off vs 0 cells
  rw [Nat.add_zero] at this
  rw [← this, ← Array.foldl_toList, Array.toList_zipIdx]
/-- cells of a slice laid anew -/
def lset (xs : List Value) : Nat → List Value → List Value
  | _, [] => xs
  | j, v :: r => lset (xs.set j v) (j + 1) r
theorem lset_len : ∀ (vs xs : List Value) (j : Nat), (lset xs j vs).length = xs.length
  | [], _, _ => rfl
  | v :: r, xs, j => by rw [lset, lset_len r, List.length_set]
theorem lset_at : ∀ (vs xs : List Value) (j i : Nat), i < xs.length → (lset xs j vs)[i]? = if j ≤ i ∧ i < j + vs.length then vs[i - j]? else xs[i]?
  | [], xs, j, i, hi => by rw [lset, if_neg (by simp only [List.length_nil]; omega)]
  | v :: r, xs, j, i, hi => by
    rw [lset, lset_at r _ (j + 1) i (by simpa using hi), List.getElem?_set]
    by_cases h1 : j = i
    · subst h1
      rw [if_neg (by omega)]
      simp [hi]
    · rw [if_neg h1]
      by_cases h2 : j + 1 ≤ i ∧ i < j + 1 + r.length
      · rw [if_pos h2, if_pos (by simp; omega), show i - j = (i - (j + 1)) + 1 by omega, List.getElem?_cons_succ]
      · rw [if_neg h2, if_neg (by simp; omega)]
theorem Mid.sets {base e sz n c b off : Nat} : ∀ (vs : List Value) (j : Nat) (w : World) (xs : List Value), Mid w base e sz (some ⟨b, off, none⟩) n c xs → Mid (w.setCells b (off + j) vs) base e sz (some ⟨b, off, none⟩) n c (lset xs j vs)
  | [], _, _, _, h => h
  | v :: r, j, w, xs, h => by
    rw [World.setCells, lset]
    exact Mid.sets r (j + 1) _ _ (h.set_ j v)
theorem lset_rows {α : Type} {enc : α → List Value} {sz : Nat} (he : ∀ a, (enc a).length = sz) (h0 : 0 < sz) (l : List α) (i : Nat) (hi : i < l.length) (x : α) : lset (rows enc l) (i * sz) (enc x) = rows enc (l.set i x) := by
  apply List.ext_getElem?
  intro t
  have hl := rows_len he l
  have hl2 := rows_len he (l.set i x)
  rw [List.length_set] at hl2
  by_cases ht : t < l.length * sz
  · rw [lset_at _ _ _ _ (by rw [hl]; exact ht), he]
    have e : t / sz * sz + t % sz = t := by rw [Nat.mul_comm]; exact Nat.div_add_mod t sz
    have hq : t / sz < l.length := (Nat.div_lt_iff_lt_mul h0).2 ht
    have hr : t % sz < sz := Nat.mod_lt _ h0
    have h2 := rows_at he (t % sz) hr (l.set i x) (t / sz) (by simpa using hq)
    rw [e] at h2
    rw [h2]
    by_cases hqi : t / sz = i
    · have hle : i * sz ≤ t := by rw [← hqi]; exact Nat.div_mul_le_self t sz
      have hlt : t < i * sz + sz := by rw [← hqi]; omega
      rw [if_pos ⟨hle, hlt⟩]
      have e3 : t - i * sz = t % sz := by rw [← hqi]; omega
      rw [e3]
      simp [hqi]
    · have h1 := rows_at he (t % sz) hr l (t / sz) hq
      rw [e] at h1
      rw [if_neg, h1, List.getElem_set_ne (fun h => hqi h.symm)]
      intro ⟨a1, a2⟩
      apply hqi
      have : t / sz = i := by
        rw [Nat.div_eq_iff h0]
        constructor
        · exact a1
        · omega
      exact this
  · rw [List.getElem?_eq_none (by rw [lset_len, hl]; omega), List.getElem?_eq_none (by rw [hl2]; omega)]
theorem Mid.set_row {α : Type} {enc : α → List Value} {w : World} {base e sz n c b off : Nat} (he : ∀ a, (enc a).length = sz) (h0 : 0 < sz) {l : List α} (h : Mid w base e sz (some ⟨b, off, none⟩) n c (rows enc l)) (i : Nat) (hi : i < l.length) (x : α) : Mid (w.setCells b (off + i * sz) (enc x)) base e sz (some ⟨b, off, none⟩) n c (rows enc (l.set i x)) := by
  rw [← lset_rows he h0 l i hi x]
  exact Mid.sets (enc x) (i * sz) w _ h
theorem Mid.there {w : World} {base e sz n c b off k m : Nat} {xs : List Value} (h : Mid w base e sz (some ⟨b, off, none⟩) n c xs) (hk : k + m ≤ c * sz) (hm : 0 < m) : w.there b (off + k) m := fun j hj => by
  have hc : 0 < c := Nat.pos_of_mul_pos_right (b := sz) (by omega)
  obtain ⟨b', off', e1, h1, _⟩ := h.at_ hc
  injection e1 with e1
  injection e1 with e2 e3 _
  subst e2 e3
  rw [Nat.add_assoc]
  exact h1 (k + j) (by omega)
theorem step_store_mid {ops : Array Oper} {op : Oper} {a : Act} {w : World} {K : Act → World → Prop} {Q : Exit → Act → World → Prop} {E : Prop} (hgd : op.guard = none) (ty : TypeId) (x y : Operand) (ho : op.op = .store ty x y)
    (b o : Nat) (cells : Array Value) (hx : a.eval x = .pointer (some ⟨b, o, none⟩)) (hy : a.eval y = .agg cells)
    (ht : w.there b o cells.size) (hi : (Try.prog.info? ty).map (·.size) = some cells.size) (h1 : cells.all (·.oneCell') = true)
    (h : K (a.put op.dst undef) (w.setCells b o cells.toList)) : if Region.wanted op (yielded ops a.tmps) = true then Oper.wp Try.prog op a w K Q else E := by
  have hw : Region.wanted op (yielded ops a.tmps) = true := by simp [Region.wanted, hgd]
  rw [if_pos hw]
  exact wp_store_mid ty x y ho b o cells hx hy ht hi h1 h
theorem info_of {t : TypeId} {z : Value} {n : Nat} (h : (Try.prog.info? t).map (fun i => (i.zero, i.size)) = some (some z, n)) : ∃ i, Try.prog.info? t = some i ∧ i.zero = some z ∧ i.size = n := by
  cases hi : Try.prog.info? t with
  | none => rw [hi] at h; cases h
  | some i =>
    rw [hi] at h
    simp only [Option.map_some, Option.some.injEq, Prod.mk.injEq] at h
    exact ⟨i, rfl, h.1, h.2⟩
theorem step_append_mid {ops : Array Oper} {o : Oper} {a : Act} {K : Act → World → Prop} {Q : Exit → Act → World → Prop} {E : Prop} (w : World) (hgd : o.guard = none) (s x : Operand) (t : TypeId)
    (ho : o.op = .call { callee := .builtin .append, args := #[s, x], argTypes := #[t, t] })
    (base : Nat) (e : TypeId) (i : TypeInfo) (z : Value) (sz bytes : Nat) (ht : Try.prog.underlying t = some (.slice e)) (hi : Try.prog.info? e = some i) (hz : i.zero = some z) (hsz : i.size = sz) (hby : i.bytes = bytes) (hzs : z.cells.size = sz) (hpos : 0 < sz)
    (A : Option Addr) (n c : Nat) (xs : List Value) (hs : a.eval s = .slice A n c) (h : Mid w base e sz A n c xs) (A2 : Option Addr) (m c2 : Nat) (ys : List Value) (hx : a.eval x = .slice A2 m c2) (hd : Sl w sz A2 m ys) (h1 : ∀ u ∈ ys, u.oneCell' = true) (hn : n + m ≤ 1000000000) (hbb : bytes ≤ 100000) (hbase : base ≤ w.heap.size)
    (hK : ∀ A' c' w', Mid w' base e sz A' (n + m) c' (xs ++ ys) → Only (fun k => k + 1 = bk A) w w' → (bk A' = bk A ∨ w.heap.size < bk A') → K (a.put o.dst (.slice A' (n + m) c')) w') :
    if Region.wanted o (yielded ops a.tmps) = true then Oper.wp Try.prog o a w K Q else E := by
  have hw : Region.wanted o (yielded ops a.tmps) = true := by simp [Region.wanted, hgd]
  rw [if_pos hw]
  exact wp_append_mid w s x t ho base e i z sz bytes ht hi hz hsz hby hzs hpos A n c xs hs h A2 m c2 ys hx hd h1 hn hbb hbase hK
/-- a struct of two parts, in a region that draws its order -/
theorem yieldsIf_build2 {ops : Array Oper} {S : World → Prop} {op : Oper} {a : Act} (hw : Region.wanted op (yielded ops a.tmps) = true) (t : TypeId) (x y : Operand) (vx vy : Value) (ho : op.op = .build t #[(0, x), (1, y)]) (hx : a.eval x = vx) (hy : a.eval y = vy) (cells : Array Value)
    (hc : Try.prog.built t [(0, vx), (1, vy)] = some cells) : YieldsIf Try.prog ops S op (.agg cells) a :=
  .inl ⟨hw, fun w _ => by
    have h1 : (#[(0, x), (1, y)].map fun (x : Nat × Operand) => (x.1, a.eval x.2)) = #[(0, vx), (1, vy)] := by simp [hx, hy]
    unfold execOp
    simp only [ho, Sem.run_bind]
    rw [h1, run_build w t #[(0, vx), (1, vy)] cells hc]
    rfl⟩
/-- a slice literal of one element of many cells -/
theorem fill_one {z : Value} {vs : List Value} (hz : 0 < vs.length) :
    Instr.fill (fun i => some (i * vs.length, vs.length)) ((Array.range (1 * vs.length)).map (z.cells[· % z.cells.size]!)) [(0, .agg vs.toArray)] = some vs.toArray := by
  have h := Go.Great.fill_whole (s := vs.length) hz [.agg vs.toArray] ((Array.range (1 * vs.length)).map (z.cells[· % z.cells.size]!)) (fun v hv => by
    rw [List.mem_singleton] at hv; subst hv; simp [Value.cells]) (by simp)
  simpa [Value.cells, List.zipIdx] using h
theorem step_buildOne {ops : Array Oper} {o : Oper} {a : Act} {K : Act → World → Prop} {Q : Exit → Act → World → Prop} {E : Prop} (w : World) (hgd : o.guard = none) (t e : TypeId) (x : Operand) (ho : o.op = .buildSlice t 1 #[(0, x)])
    (vs : List Value) (z : Value) (hu : Try.prog.underlying t = some (.slice e)) (hi : (Try.prog.info? e).map (fun i => (i.zero, i.size)) = some (some z, vs.length)) (hx : a.eval x = .agg vs.toArray) (hp : 0 < vs.length) (hl : vs.length ≤ 16777216)
    (h : K (a.put o.dst (.slice (some ⟨w.heap.size, 0, none⟩) 1 1)) (w.alloc (.cells vs.toArray e))) :
    if Region.wanted o (yielded ops a.tmps) = true then Oper.wp Try.prog o a w K Q else E := by
  have hw : Region.wanted o (yielded ops a.tmps) = true := by simp [Region.wanted, hgd]
  rw [if_pos hw]
  obtain ⟨i, hi0, hi1, hi2⟩ := info_of hi
  refine Go.wp_buildSlice t e 1 #[(0, x)] ho vs.toArray i z hu hi0 hi1 (by rw [hi2]; omega) (by rw [hi2]; omega) ?_ h
  rw [hi2]
  have : (#[(0, x)].map fun (x : Nat × Operand) => (x.1, a.eval x.2)).toList = [(0, .agg vs.toArray)] := by simp [hx]
  rw [this]
  exact fill_one hp
theorem wpList_buildOne {ops : Array Oper} {rest : List Oper} {o : Oper} {a : Act} {Q : Exit → Act → World → Prop} (w : World) (hgd : o.guard = none) (t e : TypeId) (x : Operand) (ho : o.op = .buildSlice t 1 #[(0, x)])
    (vs : List Value) (z : Value) (hu : Try.prog.underlying t = some (.slice e)) (hi : (Try.prog.info? e).map (fun i => (i.zero, i.size)) = some (some z, vs.length)) (hx : a.eval x = .agg vs.toArray) (hp : 0 < vs.length) (hl : vs.length ≤ 16777216)
    (h : wpList Try.prog ops Q rest (a.put o.dst (.slice (some ⟨w.heap.size, 0, none⟩) 1 1)) (w.alloc (.cells vs.toArray e))) : wpList Try.prog ops Q (o :: rest) a w := by
  obtain ⟨i, hi0, hi1, hi2⟩ := info_of hi
  refine Go.wpList_buildSlice hgd t e 1 #[(0, x)] ho vs.toArray i z hu hi0 hi1 (by rw [hi2]; omega) (by rw [hi2]; omega) ?_ h
  rw [hi2]
  have : (#[(0, x)].map fun (x : Nat × Operand) => (x.1, a.eval x.2)).toList = [(0, .agg vs.toArray)] := by simp [hx]
  rw [this]
  exact fill_one hp
end Go.Proofs.Ytpjienjofeiieaa
