/- Texts joined: Mid OctP Lex. -/
import Derived.Test.YtpdhoojjcgohpaaGreatB1
import Derived.ArgAppend
import Derived.Laws.BitsLemmas
namespace Go.Proofs.YtpdhoojjcgohpaaGreat
set_option maxRecDepth 4000
open Go.RowKit
set_option linter.unusedVariables false

theorem add_lit (b off j : Nat) : (⟨b, off, none⟩ : Addr).add j = ⟨b, off + j, none⟩ := by unfold Addr.add; split <;> simp_all

/-- a slice that reads as the cells xs, sz to an element -/
structure Sl (w : World) (sz : Nat) (A : Option Addr) (n : Nat) (xs : List Value) : Prop where
  len : xs.length = n * sz
  at_ : 0 < n * sz → ∃ b off, A = some ⟨b, off, none⟩ ∧ b < w.heap.size ∧ ∀ j, j < n * sz → w.cell? ⟨b, off + j, none⟩ = xs[j]?
section
variable {w w' : World} {sz n : Nat} {A : Option Addr} {xs : List Value} {S : Nat → Prop}
theorem Sl.none_ (w : World) (sz : Nat) (A : Option Addr) : Sl w sz A 0 [] := ⟨by simp, fun h => absurd h (by simp)⟩
theorem Sl.lt (h : Sl w sz A n xs) (hn : 0 < n * sz) : 0 < bk A ∧ bk A ≤ w.heap.size := by
  obtain ⟨b, off, rfl, hb, _⟩ := h.at_ hn
  simp only [bk_some]
  omega
theorem Sl.only (h : Sl w sz A n xs) (ho : Only S w w') (hs : 0 < n * sz → ∀ k, k + 1 = bk A → ¬ S k) : Sl w' sz A n xs :=
  ⟨h.len, fun hn => by
    obtain ⟨b, off, rfl, hb, hc⟩ := h.at_ hn
    exact ⟨b, off, rfl, Nat.lt_of_lt_of_le hb ho.size, fun j hj => (ho.cell (p := ⟨b, off + j, none⟩) hb (hs hn b rfl)).trans (hc j hj)⟩⟩
theorem Sl.keep (h : Sl w sz A n xs) (ho : Only (fun _ => False) w w') : Sl w' sz A n xs := h.only ho (fun _ _ _ h => h)
theorem Sl.below {B : Nat} (h : Sl w sz A n xs) (hb : Below B w w') (hs : 0 < n * sz → bk A ≤ B) : Sl w' sz A n xs :=
  h.only (Only.of_below hb) (fun hn k hk e => by have := hs hn; omega)
theorem Sl.drewN (h : Sl w sz A n xs) (k : Nat) : Sl (w.drewN k) sz A n xs := ⟨h.len, h.at_⟩
theorem Sl.drew (h : Sl w sz A n xs) : Sl w.drew sz A n xs := ⟨h.len, h.at_⟩
theorem Sl.take {m : Nat} (h : Sl w sz A n xs) (hm : m ≤ n) : Sl w sz A m (xs.take (m * sz)) := by
  have hmul : m * sz ≤ n * sz := Nat.mul_le_mul_right _ hm
  refine ⟨by rw [List.length_take, h.len]; omega, fun hn => ?_⟩
  obtain ⟨b, off, e, hb, hc⟩ := h.at_ (by omega)
  exact ⟨b, off, e, hb, fun j hj => by rw [List.getElem?_take, if_pos hj]; exact hc j (by omega)⟩
theorem Sl.row {B : Nat} (h : Sl w sz A n xs) (hsz : 0 < sz) (hB : w.heap.size ≤ B) : Row_ w B sz A n xs := by
  refine ⟨h.len, fun hn => ?_⟩
  obtain ⟨b, off, rfl, hb, hc⟩ := h.at_ (Nat.mul_pos hn hsz)
  refine ⟨_, rfl, Nat.lt_of_lt_of_le hb hB, fun j u hu => ?_⟩
  have hj : j < n * sz := by rw [← h.len]; exact (List.getElem?_eq_some_iff.1 hu).1
  rw [add_lit, hc j hj, hu]
theorem Sl.of_blk {g : Nat} {t : TypeId} {cs : List Value} (h : Blk w g t cs.toArray) (hs : cs.length = n * sz) : Sl w sz (some ⟨g, 0, none⟩) n cs :=
  ⟨hs, fun _ => ⟨g, 0, rfl, h.lt, fun j _ => by rw [Nat.zero_add, h.cell j]; simp⟩⟩
theorem Sl.byt {cs : List Int} (h : Byt w A n cs) : Sl w 1 A n (cs.map (Value.int .u8)) :=
  ⟨by simp [h.len], fun hn => by
    obtain ⟨b, off, rfl, hc⟩ := h.at_ (by omega)
    refine ⟨b, off, rfl, lt_of_cell (hc 0 (by omega)), fun j hj => ?_⟩
    rw [hc j (by omega), List.getElem?_map, List.getElem?_eq_getElem (by have := h.len; omega), gb_getElem (by have := h.len; omega)]
    rfl⟩
theorem Sl.to_byt {cs : List Int} (h : Sl w 1 A n (cs.map (Value.int .u8))) (hb : AllB cs) : Byt w A n cs := by
  have hl : cs.length = n := by have := h.len; simpa using this
  refine ⟨hl, hb, fun hn => ?_⟩
  obtain ⟨b, off, rfl, _, hc⟩ := h.at_ (by omega)
  refine ⟨b, off, rfl, fun j hj => ?_⟩
  rw [hc j (by omega), List.getElem?_map, List.getElem?_eq_getElem (by omega), gb_getElem (by omega)]
  rfl
end

/-- a slice in a row of the call's own: its cells, and room behind them -/
structure Mid (w : World) (base e sz : Nat) (A : Option Addr) (n c : Nat) (xs : List Value) : Prop where
  len : xs.length = n * sz
  le : n ≤ c
  cm : c ≤ maxLen
  lo : 0 < bk A → base < bk A
  hi : bk A ≤ w.heap.size
  ty : ∀ g, g + 1 = bk A → ∃ cur fr, w.heap[g]? = some (.cells cur e fr)
  at_ : 0 < c → ∃ g off, A = some ⟨g, off, none⟩ ∧ (∀ j, j < c * sz → (w.cell? ⟨g, off + j, none⟩).isSome = true ∧ w.frozen? ⟨g, off + j, none⟩ = false) ∧ ∀ j, j < n * sz → w.cell? ⟨g, off + j, none⟩ = xs[j]?
section
variable {w w' : World} {base e sz n c : Nat} {A : Option Addr} {xs : List Value} {S : Nat → Prop}
theorem only_set (w : World) (g j : Nat) (u : Value) : Only (fun k => k = g) w (w.setCell ⟨g, j, none⟩ u) := (Only.refl (fun k => k = g) w).setCell (p := ⟨g, j, none⟩) (fun _ => rfl) u
theorem Mid.nil (w : World) (base e sz : Nat) : Mid w base e sz none 0 0 [] :=
  ⟨by simp, Nat.le_refl _, Nat.zero_le _, fun h => absurd h (by simp), by simp, fun g h => absurd h (by simp), fun h => absurd h (by omega)⟩
theorem Mid.sl (h : Mid w base e sz A n c xs) : Sl w sz A n xs :=
  ⟨h.len, fun hn => by
    have hc : 0 < c := Nat.lt_of_lt_of_le (Nat.pos_of_mul_pos_right hn) h.le
    obtain ⟨g, off, rfl, _, hx⟩ := h.at_ hc
    have := h.hi
    exact ⟨g, off, rfl, by simp only [bk_some] at this; omega, hx⟩⟩
theorem Mid.only (h : Mid w base e sz A n c xs) (ho : Only S w w') (hs : ∀ k, k + 1 = bk A → ¬ S k) : Mid w' base e sz A n c xs :=
  ⟨h.len, h.le, h.cm, h.lo, Nat.le_trans h.hi ho.size, fun g hg => by
    obtain ⟨cur, fr, hh⟩ := h.ty g hg
    have hi := h.hi
    exact ⟨cur, fr, (ho.block g (by omega) (hs g hg)).trans hh⟩, fun hc => by
    obtain ⟨g, off, rfl, h1, h2⟩ := h.at_ hc
    have hi := h.hi
    simp only [bk_some] at hi
    have hg := hs g rfl
    refine ⟨g, off, rfl, fun j hj => ?_, fun j hj => (ho.cell (p := ⟨g, off + j, none⟩) hi hg).trans (h2 j hj)⟩
    rw [ho.cell (p := ⟨g, off + j, none⟩) hi hg, ho.frozen (p := ⟨g, off + j, none⟩) hi hg]
    exact h1 j hj⟩
theorem Mid.keep (h : Mid w base e sz A n c xs) (ho : Only (fun _ => False) w w') : Mid w' base e sz A n c xs := h.only ho (fun _ _ h => h)
theorem Mid.alloc (h : Mid w base e sz A n c xs) (o : Obj) : Mid (w.alloc o) base e sz A n c xs := h.keep ((Only.refl _ w).alloc o)
theorem Mid.drew (h : Mid w base e sz A n c xs) : Mid w.drew base e sz A n c xs := h.keep (Only.refl _ w).drew
theorem Mid.drewN (h : Mid w base e sz A n c xs) (k : Nat) : Mid (w.drewN k) base e sz A n c xs := h.keep ((Only.refl _ w).drewN k)
theorem Mid.mono {base' : Nat} (h : Mid w base e sz A n c xs) (hb : base' ≤ base) : Mid w base' e sz A n c xs := ⟨h.len, h.le, h.cm, fun h0 => by have := h.lo h0; omega, h.hi, h.ty, h.at_⟩
theorem Mid.to {xs' : List Value} (h : Mid w base e sz A n c xs) (hx : xs = xs') : Mid w base e sz A n c xs' := hx ▸ h
theorem Mid.ne_blk {t g : Nat} {cs : Array Value} (h : Mid w base e sz A n c xs) (hb : Blk w g t cs) (ht : t ≠ e) : g + 1 ≠ bk A := by
  intro hg
  obtain ⟨cur, fr, hh⟩ := h.ty g hg
  unfold Blk at hb
  rw [hb] at hh
  injection hh with hh
  injection hh with _ h2
  exact ht h2
theorem Mid.ne_mid {e' sz' n' c' : Nat} {A' : Option Addr} {xs' : List Value} (h : Mid w base e sz A n c xs) (h' : Mid w base e' sz' A' n' c' xs') (ht : e ≠ e') (h0 : 0 < bk A) : bk A ≠ bk A' := by
  intro hg
  obtain ⟨cur, fr, hh⟩ := h.ty (bk A - 1) (by omega)
  obtain ⟨cur', fr', hh'⟩ := h'.ty (bk A - 1) (by omega)
  rw [hh] at hh'
  injection hh' with hh'
  injection hh' with _ h2
  exact ht h2
theorem Mid.of_own (h : w.ownsRow base e sz (.slice A n c) n xs) : Mid w base e sz A n c xs := by
  rcases h.2 with ⟨hv, rfl⟩ | ⟨g, cap, cur, hv, hb, hg, hnc, hcm, hsz, htk⟩
  · injection hv with h1 _ h3
    subst h1 h3
    have : xs = [] := List.eq_nil_of_length_eq_zero (by simpa using h.1)
    subst this
    exact Mid.nil _ _ _ _
  · injection hv with h1 h2 h3
    subst h1 h3
    have hlt : g < w.heap.size := by
      rcases Nat.lt_or_ge g w.heap.size with hlt | hge
      · exact hlt
      · rw [Array.getElem?_eq_none hge] at hg; cases hg
    refine ⟨h.1, hnc, hcm, fun _ => by simp; omega, by simp only [bk_some]; omega, fun g' hg' => ?_, fun _ => ⟨g, 0, rfl, fun j hj => ?_, fun j hj => ?_⟩⟩
    · obtain rfl : g' = g := by simpa using hg'
      exact ⟨cur, _, hg⟩
    · have hj' : j < cur.size := by omega
      refine ⟨?_, ?_⟩
      · simp [World.cell?, hg, hj']
      · simp [World.frozen?, hg]
    · rw [Nat.zero_add]
      have := h.cellAt j hj
      exact this
/-- a literal '[]T{..}' of the call's own -/
theorem Mid.of_blk {g : Nat} {cs : List Value} (h : Blk w g e cs.toArray) (hb : base ≤ g) (hs : cs.length = n * sz) (hm : n ≤ maxLen) : Mid w base e sz (some ⟨g, 0, none⟩) n n cs := by
  refine ⟨hs, Nat.le_refl _, hm, fun _ => by simp; omega, by have := h.lt; simp only [bk_some]; omega, fun g' hg' => ?_, fun _ => ⟨g, 0, rfl, fun j hj => ?_, fun j hj => ?_⟩⟩
  · obtain rfl : g' = g := by simpa using hg'
    exact ⟨_, _, h⟩
  · refine ⟨?_, h.frozen _⟩
    rw [h.cell]
    simp [hs, hj]
  · rw [Nat.zero_add, h.cell]
    simp
/-- the row of '[]byte(s)' -/
theorem Mid.of_conv (w : World) (s : ByteArray) (hs : s.size ≤ maxLen) (hb : base ≤ w.heap.size) : Mid (Lib.bytesWorld w 5 s) base 5 1 (some ⟨w.heap.size, 0, none⟩) s.size (grownCap w s.size 0 5) ((codes s).map (Value.int .u8)) := by
  have hge := grownCap_ge w s.size 0 5
  have hsz : (Lib.bytesCells w 5 s).size = grownCap w s.size 0 5 := by
    unfold Lib.bytesCells
    simp
    have : s.data.size = s.size := rfl
    omega
  have h := Lib.bytesWorld_at_new w 5 s
  have hby := Sl.byt (byt_bytesWorld w s)
  refine ⟨hby.len, hge, grownCap_le_maxLen w _ _ _ hs, fun _ => by simp; omega, by rw [Lib.bytesWorld_size]; simp, fun g' hg' => ?_, fun _ => ⟨w.heap.size, 0, rfl, fun j hj => ?_, fun j hj => ?_⟩⟩
  · obtain rfl : g' = w.heap.size := by simpa using hg'
    exact ⟨_, _, h⟩
  · rw [Nat.zero_add]
    refine ⟨?_, ?_⟩
    · have hlt : j < (Lib.bytesCells w 5 s).size := by omega
      simp [World.cell?, h, hlt]
    · simp [World.frozen?, h]
      omega
  · obtain ⟨b, off, e1, _, hc⟩ := hby.at_ (by omega)
    simp only [Option.some.injEq, Addr.mk.injEq, and_true] at e1
    obtain ⟨rfl, rfl⟩ := e1
    exact hc j hj
/-- a cut: 's[k:]', k below the capacity -/
theorem Mid.cut {k : Nat} {b off : Nat} (h : Mid w base e sz (some ⟨b, off, none⟩) n c xs) (hk : k ≤ n) : Mid w base e sz (some ⟨b, off + k * sz, none⟩) (n - k) (c - k) (xs.drop (k * sz)) := by
  have hm : k * sz ≤ n * sz := Nat.mul_le_mul_right _ hk
  have hle := h.le
  refine ⟨by rw [List.length_drop, h.len, Nat.sub_mul], by omega, by have := h.cm; omega, fun h0 => h.lo h0, h.hi, fun g hg => h.ty g hg, fun hc => ?_⟩
  obtain ⟨g, off', e1, h1, h2⟩ := h.at_ (by omega)
  simp only [Option.some.injEq, Addr.mk.injEq, and_true] at e1
  obtain ⟨rfl, rfl⟩ := e1
  have hmc : k * sz ≤ c * sz := Nat.mul_le_mul_right _ (by omega)
  refine ⟨b, off + k * sz, rfl, fun j hj => ?_, fun j hj => ?_⟩
  · rw [Nat.sub_mul] at hj
    have := h1 (k * sz + j) (by omega)
    rwa [← Nat.add_assoc] at this
  · rw [Nat.sub_mul] at hj
    have := h2 (k * sz + j) (by omega)
    rw [← Nat.add_assoc] at this
    rw [this, List.getElem?_drop]
/-- a cut at the very end: the address stays -/
theorem Mid.end_ (h : Mid w base e sz A n c xs) : Mid w base e sz A 0 0 [] :=
  ⟨by simp, Nat.le_refl _, Nat.zero_le _, h.lo, h.hi, h.ty, fun h => absurd h (by omega)⟩
theorem Mid.cutM {k : Nat} (h : Mid w base e sz A n c xs) (hk : k ≤ n) (hsz : sz * k = k * sz) : Mid w base e sz (if c = k then A else A.map (·.add (k * sz))) (n - k) (c - k) (xs.drop (k * sz)) := by
  have hle := h.le
  by_cases hc : c = k
  · rw [if_pos hc]
    have e1 : n - k = 0 := by omega
    have e2 : c - k = 0 := by omega
    have e3 : xs.drop (k * sz) = [] := List.drop_eq_nil_of_le (by rw [h.len]; exact Nat.mul_le_mul_right _ (by omega))
    rw [e1, e2, e3]
    exact h.end_
  · rw [if_neg hc]
    obtain ⟨g, off, rfl, _⟩ := h.at_ (by omega)
    simp only [Option.map_some, add_lit]
    exact h.cut hk
/-- s[:m] -/
theorem Mid.take {m : Nat} (h : Mid w base e sz A n c xs) (hm : m ≤ n) : Mid w base e sz A m c (xs.take (m * sz)) := by
  have hle := h.le
  have hmul : m * sz ≤ n * sz := Nat.mul_le_mul_right _ hm
  refine ⟨by rw [List.length_take, h.len]; omega, by omega, h.cm, h.lo, h.hi, h.ty, fun hc => ?_⟩
  obtain ⟨g, off, e1, h1, h2⟩ := h.at_ hc
  exact ⟨g, off, e1, h1, fun j hj => by rw [List.getElem?_take, if_pos hj]; exact h2 j (by omega)⟩
/-- a store into one of its cells -/
theorem Mid.set_ {b off : Nat} (h : Mid w base e sz (some ⟨b, off, none⟩) n c xs) (j : Nat) (u : Value) : Mid (w.setCell ⟨b, off + j, none⟩ u) base e sz (some ⟨b, off, none⟩) n c (xs.set j u) := by
  refine ⟨by rw [List.length_set, h.len], h.le, h.cm, h.lo, by simpa [World.setCell] using h.hi, fun g hg => ?_, fun hc => ?_⟩
  · obtain ⟨cur, fr, hh⟩ := h.ty g hg
    obtain rfl : g = b := by simpa using hg
    refine ⟨cur.setIfInBounds (off + j) u, fr, ?_⟩
    simp [World.setCell, Array.getElem?_modify, hh]
  · obtain ⟨g, off', e1, h1, h2⟩ := h.at_ hc
    simp only [Option.some.injEq, Addr.mk.injEq, and_true] at e1
    obtain ⟨rfl, rfl⟩ := e1
    refine ⟨b, off, rfl, fun i hi => ?_, fun i hi => ?_⟩
    · obtain ⟨s1, s2⟩ := h1 i hi
      rw [World.frozen?_setCell]
      refine ⟨?_, s2⟩
      by_cases e1 : i = j
      · subst e1
        obtain ⟨v, hv⟩ := Option.isSome_iff_exists.1 s1
        rw [World.cell?_setCell_same _ _ _ hv]; rfl
      · rw [World.cell?_setCell_other _ _ _ _ (fun e2 => e1 (by injection e2; omega))]; exact s1
    · by_cases e1 : i = j
      · subst e1
        obtain ⟨v, hv⟩ := Option.isSome_iff_exists.1 (h1 i (Nat.lt_of_lt_of_le hi (Nat.mul_le_mul_right _ h.le))).1
        rw [World.cell?_setCell_same _ _ _ hv, List.getElem?_set_self (by rw [h.len]; exact hi)]
      · rw [World.cell?_setCell_other _ _ _ _ (fun e2 => e1 (by injection e2; omega)), List.getElem?_set_ne (by omega)]
        exact h2 i hi
end

/-! ### append -/
section
variable {P : Program}
theorem run_append_zero (w : World) (t ty e : TypeId) (i : TypeInfo) (ht : P.underlying t = some (.slice e)) (hi : P.info? e = some i) (base A2 : Option Addr) (n cap c2 : Nat) (hle : n ≤ cap) :
    (Builtin.append_ #[t, t] ty #[.slice base n cap, .slice A2 0 c2]).run P w = .ok (.slice base n cap) w := by
  have hf : ∀ a : Addr, (Builtin.firstCells i.size 0 (.slice (some a) 0 c2)).run P w = .ok #[] w := fun a => run_firstCells_some (P := P) w i.size 0 a 0 c2 [] (by simp) (by simp)
  have hf0 : (Builtin.firstCells i.size 0 (.slice none 0 c2)).run P w = .ok #[] w := by simp [Builtin.firstCells]
  cases base <;> cases A2 <;> simp [Builtin.append_, run_underlying ht, sizeOf, typeInfo, hi, Builtin.lenOf, hle, hf, hf0, storeCells]
end
theorem only_setCells (b : Nat) : ∀ (vs : List Value) (o : Nat) (w : World), Only (fun k => k = b) w (w.setCells b o vs)
  | [], _, w => Only.refl _ w
  | v :: r, o, w => ((Only.refl (fun k => k = b) w).setCell (p := ⟨b, o, none⟩) (fun _ => rfl) v).then (only_setCells b r (o + 1) _)
theorem setCells_block (b : Nat) : ∀ (vs : List Value) (o : Nat) (w : World) (cur : Array Value) (e : TypeId) (fr : Nat × Nat), w.heap[b]? = some (.cells cur e fr) → ∃ cur', (w.setCells b o vs).heap[b]? = some (.cells cur' e fr)
  | [], _, w, cur, e, fr, h => ⟨cur, h⟩
  | v :: r, o, w, cur, e, fr, h => setCells_block b r (o + 1) _ (cur.setIfInBounds o v) e fr (by simp [World.setCell, Array.getElem?_modify, h])

theorem run_append_mid (w : World) (base : Nat) (t ty e : TypeId) (i : TypeInfo) (z : Value) (sz bytes : Nat) (ht : Tryz.prog.underlying t = some (.slice e)) (hi : Tryz.prog.info? e = some i) (hz : i.zero = some z) (hsz : i.size = sz) (hby : i.bytes = bytes) (hzs : z.cells.size = sz) (hpos : 0 < sz)
    (A : Option Addr) (n c : Nat) (xs : List Value) (h : Mid w base e sz A n c xs) (A2 : Option Addr) (m c2 : Nat) (ys : List Value) (hd : Sl w sz A2 m ys) (h1 : ∀ u ∈ ys, u.oneCell' = true) (hn : n + m ≤ 1000000000) (hbb : bytes ≤ 100000) (hbase : base ≤ w.heap.size) :
    ∃ A' c' w', (Builtin.append_ #[t, t] ty #[.slice A n c, .slice A2 m c2]).run Tryz.prog w = .ok (.slice A' (n + m) c') w' ∧ Mid w' base e sz A' (n + m) c' (xs ++ ys) ∧ Only (fun k => k + 1 = bk A) w w' ∧ (bk A' = bk A ∨ w.heap.size < bk A') := by
  have hmm : n + m ≤ maxLen := by unfold maxLen; omega
  have hb2 : (n + m) * bytes ≤ 140737488355328 := Nat.le_trans (Nat.mul_le_mul hn hbb) (by decide)
  rcases Nat.eq_zero_or_pos m with h0 | h0
  · subst h0
    have e0 : ys = [] := List.eq_nil_of_length_eq_zero (by simpa using hd.len)
    subst e0
    exact ⟨A, c, w, run_append_zero w t ty e i ht hi _ _ n c c2 h.le, by simpa using h, Only.refl _ w, .inl rfl⟩
  · obtain ⟨b2, off2, rfl, hb2lt, hc2⟩ := hd.at_ (Nat.mul_pos h0 hpos)
    have hly := hd.len
    have hlx := h.len
    have news : ∀ j u, ys[j]? = some u → w.cell? ((⟨b2, off2, none⟩ : Addr).add j) = some u := fun j u hu => by
      have hj : j < m * sz := by rw [← hly]; exact (List.getElem?_eq_some_iff.1 hu).1
      rw [add_lit, hc2 j hj, hu]
    have fin : ∀ v' w', w'.ownsRow w.heap.size e sz v' (n + m) (xs ++ ys) → w.grownBy w' none → ∃ A' c', v' = .slice A' (n + m) c' ∧ Mid w' base e sz A' (n + m) c' (xs ++ ys) ∧ Only (fun k => k + 1 = bk A) w w' ∧ (bk A' = bk A ∨ w.heap.size < bk A') := by
      intro v' w' hown hg
      rcases hown.2 with ⟨_, h3⟩ | ⟨g', c', cur, rfl, hb, hgg, hnc, hcm, _⟩
      · omega
      · exact ⟨_, c', rfl, (Mid.of_own hown).mono hbase, (Only.refl _ w).of_grown hg (fun k hk _ => by cases hk), .inr (by simp; omega)⟩
    by_cases hr : n + m ≤ c
    · obtain ⟨g, off, rfl, s1, s2⟩ := h.at_ (by omega)
      have hmul : (n + m) * sz ≤ c * sz := Nat.mul_le_mul_right _ hr
      rw [Nat.add_mul] at hmul
      have hcc : ∀ j, j < ys.length → (w.cell? ⟨g, off + n * sz + j, none⟩).isSome = true ∧ w.frozen? ⟨g, off + n * sz + j, none⟩ = false := fun j hj => by
        have := s1 (n * sz + j) (by omega)
        rwa [← Nat.add_assoc] at this
      have hrun := run_append_room_cells (P := Tryz.prog) w t ty e i ht hi g off n c ⟨b2, off2, none⟩ m c2 ys (by rw [hsz]; exact hly) news h1 hr (by rw [hsz]; exact fun j hj => (hcc j hj).1) (by rw [hsz]; exact fun j hj => (hcc j hj).2)
      rw [hsz] at hrun
      have hi' := h.hi
      simp only [bk_some] at hi'
      refine ⟨_, c, _, hrun, ⟨by rw [List.length_append, hlx, hly, Nat.add_mul], hr, h.cm, h.lo, Nat.le_trans h.hi (only_setCells _ _ _ _).size, fun g' hg' => ?_, fun _ => ⟨g, off, rfl, fun j hj => ?_, fun j hj => ?_⟩⟩, (only_setCells _ _ _ _).mono (fun k _ hk => by simp [hk]), .inl rfl⟩
      · obtain ⟨cur, fr, hh⟩ := h.ty g' hg'
        obtain rfl : g' = g := by simpa using hg'
        obtain ⟨cur', hcur⟩ := setCells_block g' ys (off + n * sz) w cur e fr hh
        exact ⟨cur', fr, hcur⟩
      · refine ⟨?_, by rw [World.frozen?_setCells]; exact (s1 j hj).2⟩
        by_cases hjn : n * sz ≤ j ∧ j < n * sz + ys.length
        · have := World.cell?_setCells_in g ys (off + n * sz) w (fun j hj => (hcc j hj).1) (j - n * sz) (by omega)
          rw [show off + n * sz + (j - n * sz) = off + j by omega] at this
          rw [this]; rfl
        · rw [World.cell?_setCells_out g _ _ _ _ (fun _ _ => by show off + j < _ ∨ _ ≤ off + j; omega)]
          exact (s1 j hj).1
      · rw [Nat.add_mul] at hj
        by_cases hjn : j < n * sz
        · rw [World.cell?_setCells_out g _ _ _ _ (fun _ _ => by show off + j < _ ∨ _ ≤ off + j; omega), List.getElem?_append_left (by omega)]
          exact s2 j hjn
        · have := World.cell?_setCells_in g ys (off + n * sz) w (fun j hj => (hcc j hj).1) (j - n * sz) (by omega)
          rw [show off + n * sz + (j - n * sz) = off + j by omega] at this
          rw [this, List.getElem?_append_right (by omega), hlx, List.getElem?_eq_getElem]
    · cases A with
      | none =>
        have hnc : n = 0 ∧ c = 0 := by
          by_cases hc : 0 < c
          · obtain ⟨g, off, e1, _⟩ := h.at_ hc
            cases e1
          · have := h.le; omega
        obtain ⟨rfl, rfl⟩ := hnc
        have e0 : xs = [] := List.eq_nil_of_length_eq_zero (by simpa using hlx)
        subst e0
        obtain ⟨v', w', hrun, hown, hg, _⟩ := run_append_own (P := Tryz.prog) w w.heap.size t ty e i z sz bytes ht hi hz hsz hby hzs hpos (.slice none 0 0) 0 [] (World.ownsRow_nil w _ e sz) ⟨b2, off2, none⟩ m c2 ys hly news h1 hmm hb2 (Nat.le_refl _)
        obtain ⟨A', c', rfl, f1, f2, f3⟩ := fin v' w' hown hg
        exact ⟨A', c', w', hrun, f1, f2, f3⟩
      | some a =>
        have holds : ∀ j u, xs[j]? = some u → w.cell? (a.add j) = some u := fun j u hu => by
          have hj : j < n * sz := by rw [← hlx]; exact (List.getElem?_eq_some_iff.1 hu).1
          have hn0 : 0 < n := Nat.pos_of_mul_pos_right (Nat.lt_of_le_of_lt (Nat.zero_le _) hj)
          obtain ⟨g, off, e1, _, s2⟩ := h.at_ (Nat.lt_of_lt_of_le hn0 h.le)
          injection e1 with e1
          subst e1
          rw [add_lit, s2 j hj, hu]
        obtain ⟨v', w', hrun, hown, hg⟩ := run_append_arg_grows (P := Tryz.prog) w t ty e i z sz bytes ht hi hz hsz hby hzs hpos a n c xs hlx holds ⟨b2, off2, none⟩ m c2 ys hly news (by omega) hmm hb2
        obtain ⟨A', c', rfl, f1, f2, f3⟩ := fin v' w' hown hg
        exact ⟨A', c', w', hrun, f1, f2, f3⟩

theorem wp_append_mid {o : Oper} {a : Act} {K : Act → World → Prop} {Q : Exit → Act → World → Prop} (w : World) (s x : Operand) (t : TypeId)
    (ho : o.op = .call { callee := .builtin .append, args := #[s, x], argTypes := #[t, t] })
    (base : Nat) (e : TypeId) (i : TypeInfo) (z : Value) (sz bytes : Nat) (ht : Tryz.prog.underlying t = some (.slice e)) (hi : Tryz.prog.info? e = some i) (hz : i.zero = some z) (hsz : i.size = sz) (hby : i.bytes = bytes) (hzs : z.cells.size = sz) (hpos : 0 < sz)
    (A : Option Addr) (n c : Nat) (xs : List Value) (hs : a.eval s = .slice A n c) (h : Mid w base e sz A n c xs) (A2 : Option Addr) (m c2 : Nat) (ys : List Value) (hx : a.eval x = .slice A2 m c2) (hd : Sl w sz A2 m ys) (h1 : ∀ u ∈ ys, u.oneCell' = true) (hn : n + m ≤ 1000000000) (hbb : bytes ≤ 100000) (hbase : base ≤ w.heap.size)
    (hK : ∀ A' c' w', Mid w' base e sz A' (n + m) c' (xs ++ ys) → Only (fun k => k + 1 = bk A) w w' → (bk A' = bk A ∨ w.heap.size < bk A') → K (a.put o.dst (.slice A' (n + m) c')) w') : o.wp Tryz.prog a w K Q := by
  obtain ⟨A', c', w', hrun, f1, f2, f3⟩ := run_append_mid w base t o.type e i z sz bytes ht hi hz hsz hby hzs hpos A n c xs h A2 m c2 ys hd h1 hn hbb hbase
  unfold Oper.wp execOp
  simp only [ho, resolve, invoke, builtin, Sem.run_bind, Sem.run_pure, Result.andThen_ok, List.map_toArray, List.map_cons, List.map_nil, hs, hx, hrun]
  exact hK A' c' w' f1 f2 f3

theorem wpList_append_mid {ops : Array Oper} {rest : List Oper} {o : Oper} {a : Act} {Q : Exit → Act → World → Prop} (w : World) (hgd : o.guard = none) (s x : Operand) (t : TypeId)
    (ho : o.op = .call { callee := .builtin .append, args := #[s, x], argTypes := #[t, t] })
    (base : Nat) (e : TypeId) (i : TypeInfo) (z : Value) (sz bytes : Nat) (ht : Tryz.prog.underlying t = some (.slice e)) (hi : Tryz.prog.info? e = some i) (hz : i.zero = some z) (hsz : i.size = sz) (hby : i.bytes = bytes) (hzs : z.cells.size = sz) (hpos : 0 < sz)
    (A : Option Addr) (n c : Nat) (xs : List Value) (hs : a.eval s = .slice A n c) (h : Mid w base e sz A n c xs) (A2 : Option Addr) (m c2 : Nat) (ys : List Value) (hx : a.eval x = .slice A2 m c2) (hd : Sl w sz A2 m ys) (h1 : ∀ u ∈ ys, u.oneCell' = true) (hn : n + m ≤ 1000000000) (hbb : bytes ≤ 100000) (hbase : base ≤ w.heap.size)
    (hK : ∀ A' c' w', Mid w' base e sz A' (n + m) c' (xs ++ ys) → Only (fun k => k + 1 = bk A) w w' → (bk A' = bk A ∨ w.heap.size < bk A') → wpList Tryz.prog ops Q rest (a.put o.dst (.slice A' (n + m) c')) w') : wpList Tryz.prog ops Q (o :: rest) a w :=
  wpList_plain hgd fun _ hK' => wp_append_mid w s x t ho base e i z sz bytes ht hi hz hsz hby hzs hpos A n c xs hs h A2 m c2 ys hx hd h1 hn hbb hbase fun A' c' w' h2 h3 h4 => hK' _ _ (hK A' c' w' h2 h3 h4)

/-! ### Rows of elements -/
def rows {α : Type} (enc : α → List Value) (l : List α) : List Value := l.flatMap enc
section
variable {α : Type} {enc : α → List Value} {sz : Nat}
theorem rows_nil : rows enc [] = [] := rfl
theorem rows_cons (a : α) (l : List α) : rows enc (a :: l) = enc a ++ rows enc l := rfl
theorem rows_app (l l' : List α) : rows enc (l ++ l') = rows enc l ++ rows enc l' := by simp [rows]
theorem rows_len (h : ∀ a, (enc a).length = sz) : ∀ l : List α, (rows enc l).length = l.length * sz
  | [] => by simp [rows]
  | a :: l => by rw [rows_cons, List.length_append, rows_len h l, h, List.length_cons, Nat.add_mul, Nat.one_mul, Nat.add_comm]
theorem rows_at (h : ∀ a, (enc a).length = sz) (r : Nat) (hr : r < sz) : ∀ (l : List α) (i : Nat) (hi : i < l.length), (rows enc l)[i * sz + r]? = (enc l[i])[r]?
  | a :: l, 0, _ => by rw [rows_cons, Nat.zero_mul, Nat.zero_add, List.getElem?_append_left (by rw [h]; exact hr)]; rfl
  | a :: l, i + 1, hi => by
    rw [rows_cons, List.getElem?_append_right (by rw [h, Nat.add_mul]; omega), h, show (i + 1) * sz + r - sz = i * sz + r by rw [Nat.add_mul]; omega]
    simpa using rows_at h r hr l i (by simpa using hi)
theorem rows_drop (h : ∀ a, (enc a).length = sz) : ∀ (l : List α) (k : Nat), (rows enc l).drop (k * sz) = rows enc (l.drop k)
  | l, 0 => by simp
  | [], k + 1 => by simp [rows]
  | a :: l, k + 1 => by
    rw [rows_cons, List.drop_append, h, List.drop_eq_nil_of_le (by rw [h, Nat.add_mul]; omega), List.nil_append, show (k + 1) * sz - sz = k * sz by rw [Nat.add_mul]; omega, rows_drop h l k]
    rfl
theorem rows_take (h : ∀ a, (enc a).length = sz) : ∀ (l : List α) (k : Nat), (rows enc l).take (k * sz) = rows enc (l.take k)
  | l, 0 => by simp [rows]
  | [], k + 1 => by simp [rows]
  | a :: l, k + 1 => by
    rw [rows_cons, List.take_append, h, List.take_of_length_le (by rw [h, Nat.add_mul]; omega), show (k + 1) * sz - sz = k * sz by rw [Nat.add_mul]; omega, rows_take h l k]
    rfl
theorem rows_one (h : ∀ a, ∀ u ∈ enc a, u.oneCell' = true) (l : List α) : ∀ u ∈ rows enc l, u.oneCell' = true := fun u hu => by
  obtain ⟨a, _, ha⟩ := List.mem_flatMap.1 hu
  exact h a u ha
theorem rows_set {b : α} {u : Value} {r : Nat} (h : ∀ a, (enc a).length = sz) (hr : r < sz) : ∀ (l : List α) (i : Nat) (hi : i < l.length), enc b = (enc l[i]).set r u → (rows enc l).set (i * sz + r) u = rows enc (l.set i b)
  | a :: l, 0, _, hb => by
    rw [rows_cons, List.set_cons_zero, rows_cons, Nat.zero_mul, Nat.zero_add, List.set_append_left _ _ (by rw [h]; exact hr)]
    have hb' : enc b = (enc a).set r u := hb
    rw [hb']
  | a :: l, i + 1, hi, hb => by
    rw [rows_cons, List.set_cons_succ, rows_cons, List.set_append_right _ _ (by rw [h, Nat.add_mul]; omega), h, show (i + 1) * sz + r - sz = i * sz + r by rw [Nat.add_mul]; omega]
    rw [rows_set h hr l i (by simpa using hi) (by simpa using hb)]
/-- the cells of an element of a slice -/
theorem Sl.elem {w : World} {A : Option Addr} {l : List α} (h : Sl w sz A l.length (rows enc l)) (he : ∀ a, (enc a).length = sz) (i : Nat) (hi : i < l.length) (hsz : 0 < sz) :
    ∃ b off, A = some ⟨b, off, none⟩ ∧ b < w.heap.size ∧ ∀ r, r < sz → w.cell? ⟨b, off + i * sz + r, none⟩ = (enc l[i])[r]? := by
  obtain ⟨b, off, e, hb, hc⟩ := h.at_ (Nat.mul_pos (by omega) hsz)
  refine ⟨b, off, e, hb, fun r hr => ?_⟩
  have hlt : i * sz + r < l.length * sz := by
    have : (i + 1) * sz ≤ l.length * sz := Nat.mul_le_mul_right _ hi
    rw [Nat.add_mul, Nat.one_mul] at this
    omega
  rw [Nat.add_assoc, hc _ hlt, rows_at he r hr l i hi]
end

/-- a parameter that is a slice: its elements, by a reading of one -/
theorem seen_rows {α : Type} {enc : α → List Value} {w : World} {t e sz : Nat} {v : Value} (s : Seen w t v) (ht : Tryz.prog.underlying t = some (.slice e)) (hc : Tryz.prog.cellsOf e = sz) (h0 : 0 < sz) (dflt : α) (P : α → Prop)
    (he : ∀ a, (enc a).length = sz) (rd : ∀ cs : List Value, cs.length = sz → Reads w e cs → ∃ a, cs = enc a ∧ P a) :
    ∃ A c, ∃ l : List α, v = .slice A l.length c ∧ l.length ≤ c ∧ c ≤ maxLen ∧ Sl w sz A l.length (rows enc l) ∧ ∀ a ∈ l, P a := by
  obtain ⟨A, n, c, rfl, h1, h2, h3⟩ := s.slice (sz := sz) ht hc h0
  have hx : ∀ i, i < n → ∃ a : α, ∃ b off, A = some ⟨b, off, none⟩ ∧ b < w.heap.size ∧ P a ∧ ∀ r, r < sz → w.cell? ⟨b, off + i * sz + r, none⟩ = (enc a)[r]? := by
    intro i hi
    obtain ⟨b, off, cs', rfl, hb, hl, hcc, hr⟩ := h3 i hi
    obtain ⟨a, rfl, hp⟩ := rd cs' hl hr
    exact ⟨a, b, off, rfl, hb, hp, hcc⟩
  have hch : ∃ f : Nat → α, ∀ i, i < n → ∃ b off, A = some ⟨b, off, none⟩ ∧ b < w.heap.size ∧ P (f i) ∧ ∀ r, r < sz → w.cell? ⟨b, off + i * sz + r, none⟩ = (enc (f i))[r]? :=
    ⟨fun i => if hi : i < n then (hx i hi).choose else dflt, fun i hi => by simp only [dif_pos hi]; exact (hx i hi).choose_spec⟩
  obtain ⟨f, hf⟩ := hch
  have hl : ((List.range n).map f).length = n := by simp
  refine ⟨A, c, (List.range n).map f, by rw [hl], by rw [hl]; exact h1, h2, ⟨rows_len he _, fun hn => ?_⟩, fun a ha => ?_⟩
  · rw [hl] at hn ⊢
    have hn0 : 0 < n := Nat.pos_of_mul_pos_right hn
    obtain ⟨b, off, rfl, hb, _⟩ := hf 0 hn0
    refine ⟨b, off, rfl, hb, fun j hj => ?_⟩
    have hdiv : j / sz < n := (Nat.div_lt_iff_lt_mul h0).2 hj
    obtain ⟨b', off', e1, _, _, hc⟩ := hf (j / sz) hdiv
    simp only [Option.some.injEq, Addr.mk.injEq, and_true] at e1
    obtain ⟨rfl, rfl⟩ := e1
    have hmod := Nat.mod_lt j h0
    have hdm : j / sz * sz + j % sz = j := by rw [Nat.mul_comm]; exact Nat.div_add_mod j sz
    have h4 := hc (j % sz) hmod
    rw [Nat.add_assoc, hdm] at h4
    rw [h4]
    have h5 := rows_at he (j % sz) hmod ((List.range n).map f) (j / sz) (by rw [hl]; exact hdiv)
    rw [hdm] at h5
    rw [h5]
    simp
  · obtain ⟨i, hi, rfl⟩ := List.mem_map.1 ha
    obtain ⟨_, _, _, _, hp, _⟩ := hf i (by simpa using hi)
    exact hp
/-- a whole number of 64 bits -/
def i64B (x : Int) : Prop := -9223372036854775808 ≤ x ∧ x ≤ 9223372036854775807
theorem Reads.i64 {w : World} {t : TypeId} {cs : List Value} (ht : Tryz.prog.underlying t = some (.int .i64)) (h : Reads w t cs) : ∃ n, cs = [.int .i64 n] ∧ i64B n := by
  obtain ⟨n, rfl, hw⟩ := h.int ht
  have hk : IntKind.i64.min ≤ n ∧ n ≤ IntKind.i64.max := by simpa [Lit.wf] using hw
  have e1 : IntKind.i64.min = -9223372036854775808 := by decide
  have e2 : IntKind.i64.max = 9223372036854775807 := by decide
  rw [e1, e2] at hk
  exact ⟨n, rfl, hk⟩
end Go.Proofs.YtpdhoojjcgohpaaGreat

namespace Go.Proofs.YtpdhoojjcgohpaaGreat
set_option maxRecDepth 4000
open Go.RowKit
set_option linter.unusedVariables false

/-- the last bytes of a number, the highest first -/
def lo (n : Int) : Nat → List Int
  | 0 => []
  | i + 1 => (n / 2 ^ (8 * i) % 256) :: lo n i
theorem lo_len (n : Int) : ∀ k, (lo n k).length = k
  | 0 => rfl
  | k + 1 => by simp [lo, lo_len n k]
theorem lo_mem (n : Int) : ∀ k, ∀ c ∈ lo n k, 0 ≤ c ∧ c ≤ 255
  | 0, c, h => by simp [lo] at h
  | k + 1, c, h => by
    simp only [lo, List.mem_cons] at h
    rcases h with rfl | h
    · have h1 := Int.emod_nonneg (n / 2 ^ (8 * k)) (show (256 : Int) ≠ 0 by decide)
      have h2 := Int.emod_lt_of_pos (n / 2 ^ (8 * k)) (show (0 : Int) < 256 by decide)
      omega
    · exact lo_mem n k c h
theorem lo_bd (n : Int) (k : Nat) : AllB (lo n k) := AllB.of_mem (lo_mem n k)
/-- a number of bytes -/
def numV (l : List Int) : Int := l.foldl (fun a c => a * 256 + c) 0
theorem numV_nil : numV [] = 0 := rfl
theorem numV_snoc (l : List Int) (c : Int) : numV (l ++ [c]) = numV l * 256 + c := by simp [numV]
theorem fold_add (l : List Int) : ∀ a : Int, l.foldl (fun a c => a * 256 + c) a = a * 256 ^ l.length + numV l := by
  induction l with
  | nil => intro a; simp [numV]
  | cons c l ih =>
    intro a
    unfold numV
    simp only [List.foldl_cons, List.length_cons]
    have e : (0 : Int) * 256 + c = c := by omega
    rw [e, ih, ih c, Int.pow_succ, Int.add_mul, Int.mul_assoc, Int.mul_comm 256 (256 ^ l.length)]
    omega
theorem numV_cons (c : Int) (l : List Int) : numV (c :: l) = c * 256 ^ l.length + numV l := by
  have := fold_add l (0 * 256 + c)
  unfold numV
  simp only [List.foldl_cons]
  rw [this]
  have e : (0 : Int) * 256 + c = c := by omega
  rw [e]
  rfl
theorem numV_bd {l : List Int} (h : ∀ c ∈ l, 0 ≤ c ∧ c ≤ 255) : 0 ≤ numV l ∧ numV l < 256 ^ l.length := by
  induction l with
  | nil => simp [numV]
  | cons c l ih =>
    obtain ⟨h1, h2⟩ := ih (fun c hc => h c (List.mem_cons_of_mem _ hc))
    obtain ⟨c0, c1⟩ := h c (List.mem_cons_self ..)
    rw [numV_cons, List.length_cons, Int.pow_succ]
    have hp : (0 : Int) < 256 ^ l.length := Int.pow_pos (by decide)
    have h3 : c * 256 ^ l.length ≤ 255 * 256 ^ l.length := Int.mul_le_mul_of_nonneg_right c1 (Int.le_of_lt hp)
    have h4 : 0 ≤ c * 256 ^ l.length := Int.mul_nonneg c0 (Int.le_of_lt hp)
    generalize c * 256 ^ l.length = x at *
    generalize (256 : Int) ^ l.length = p at *
    omega
theorem pow_256 (k : Nat) : (2 : Int) ^ (8 * k) = 256 ^ k := by
  rw [Int.pow_mul]; rfl
theorem numV_lo (n : Int) (h0 : 0 ≤ n) : ∀ k, numV (lo n k) = n % 2 ^ (8 * k)
  | 0 => by simp [lo, numV, Int.emod_one]
  | k + 1 => by
    rw [lo, numV_cons, lo_len, numV_lo n h0 k]
    have e : (2 : Int) ^ (8 * (k + 1)) = 2 ^ (8 * k) * 256 := by rw [Nat.mul_add, Int.pow_add]; rfl
    have hp : (0 : Int) < 2 ^ (8 * k) := Int.pow_pos (by decide)
    rw [e, ← pow_256, Int.emod_def n (2 ^ (8 * k) * 256), Int.emod_def n (2 ^ (8 * k)), Int.emod_def (n / 2 ^ (8 * k)) 256, ← Int.ediv_ediv_of_nonneg (Int.le_of_lt hp)]
    generalize n / 2 ^ (8 * k) = q
    generalize (2 : Int) ^ (8 * k) = p
    rw [Int.sub_mul, Int.mul_comm q p, Int.mul_assoc p 256, Int.mul_comm (256 * (q / 256)) p]
    omega
theorem numV_lo_id {n : Int} (h0 : 0 ≤ n) {k : Nat} (h1 : n < 2 ^ (8 * k)) : numV (lo n k) = n := by
  rw [numV_lo n h0, Int.emod_eq_of_lt h0 h1]
theorem lo_numV : ∀ {l : List Int}, (∀ c ∈ l, 0 ≤ c ∧ c ≤ 255) → lo (numV l) l.length = l := by
  have key : ∀ (l : List Int) (m : Int), (∀ c ∈ l, 0 ≤ c ∧ c ≤ 255) → 0 ≤ m → lo (m * 256 ^ l.length + numV l) l.length = l := by
    intro l
    induction l with
    | nil => intro m _ _; rfl
    | cons c l ih =>
      intro m h hm
      obtain ⟨c0, c1⟩ := h c (List.mem_cons_self ..)
      have hl : ∀ c ∈ l, 0 ≤ c ∧ c ≤ 255 := fun c hc => h c (List.mem_cons_of_mem _ hc)
      obtain ⟨b0, b1⟩ := numV_bd hl
      have hp : (0 : Int) < 256 ^ l.length := Int.pow_pos (by decide)
      have e : m * 256 ^ (c :: l).length + numV (c :: l) = (m * 256 + c) * 256 ^ l.length + numV l := by
        rw [numV_cons, List.length_cons, Int.pow_succ, Int.add_mul, Int.mul_assoc, Int.mul_comm 256 (256 ^ l.length)]
        omega
      rw [e, List.length_cons, lo, ih (m * 256 + c) hl (by omega), pow_256]
      congr 1
      rw [Int.add_comm, Int.add_mul_ediv_right _ _ (by omega), Int.ediv_eq_zero_of_lt b0 b1]
      omega
  intro l h
  have := key l 0 h (by omega)
  rwa [Int.zero_mul, Int.zero_add] at this
theorem lo_step (n : Int) (i : Nat) : n / 2 ^ (8 * i) / 256 = n / 2 ^ (8 * (i + 1)) := by
  rw [Nat.mul_add, Int.pow_add, Int.ediv_ediv_of_nonneg (Int.le_of_lt (Int.pow_pos (by decide)))]
  rfl
/-- it may be written in so many bytes -/
def fits (n : Int) (k : Nat) : Prop := n < 2 ^ (8 * k)
theorem fits_div {n : Int} (h0 : 0 ≤ n) (k : Nat) : fits n k ↔ n / 2 ^ (8 * k) = 0 := by
  have hp : (0 : Int) < 2 ^ (8 * k) := Int.pow_pos (by decide)
  constructor
  · intro h; exact Int.ediv_eq_zero_of_lt h0 h
  · intro h
    have := Int.emod_add_mul_ediv n (2 ^ (8 * k))
    rw [h] at this
    have h2 := Int.emod_lt_of_pos n hp
    unfold fits
    omega
theorem or_byte64 (n c : Int) (h0 : 0 ≤ n) (h1 : n < 72057594037927936) (c0 : 0 ≤ c) (c1 : c ≤ 255) : bits .or .u64 (n * 256) c = n * 256 + c :=
  bits_join .u64 64 (by decide) (fun n h0 h1 => by rw [IntKind.wrap_u64]; omega) 8 (n * 256) c (by omega) (by omega) (by omega) c0 (by omega) (by omega)
theorem pow_le_56 {k : Nat} (h : k ≤ 7) : (256 : Int) ^ k ≤ 72057594037927936 := by
  rcases (by omega : k = 0 ∨ k = 1 ∨ k = 2 ∨ k = 3 ∨ k = 4 ∨ k = 5 ∨ k = 6 ∨ k = 7) with h | h | h | h | h | h | h | h <;> rw [h] <;> decide
theorem take_snocI (l : List Int) (i : Nat) (hi : i < l.length) : l.take i ++ [gb l i] = l.take (i + 1) := by
  rw [List.take_succ_eq_append_getElem hi, gb_getElem hi]
theorem AllB.take_mem {cs : List Int} (h : AllB cs) (k : Nat) : ∀ c ∈ cs.take k, 0 ≤ c ∧ c ≤ 255 := (h.take k).mem
end Go.Proofs.YtpdhoojjcgohpaaGreat

namespace Go.Proofs.YtpdhoojjcgohpaaGreat
set_option maxRecDepth 4000
open Go.RowKit
set_option linter.unusedVariables false

section
variable {P : Program} {ops : Array Oper} {md : Region.Mode} {w : World} {Q : Exit → Act → World → Prop}

/-- each operation behind number n waits for one of those from n on -/
def weakB (md : Region.Mode) (ops : Array Oper) (n : Nat) : Bool :=
  (List.range ops.size).all fun t => decide (t ≤ n) || (List.range t).any fun j => decide (n ≤ j) && Region.waitsFor md ops t j

theorem weak_waits {n : Nat} (hs : Region.sinkB md ops n = true) (hc : weakB md ops n = true) (hn : n < ops.size) {listed : Array Bool} (inv : HeadInv md ops n listed) {i : Nat} (hi : i < n) (hun : listed.getD i true = false) :
    ∀ t, n ≤ t → t ∉ Region.ready md ops listed := by
  -- number n itself
  have base : ∀ d i, n - i = d → i < n → listed.getD i true = false → n ∉ Region.ready md ops listed := by
    intro d
    induction d using Nat.strongRecOn with
    | _ d ih =>
      intro i hd hi hun hr
      obtain ⟨_, ot, hot, hall⟩ := mem_ready.1 hr
      obtain ⟨j, hj, hj2⟩ := List.any_eq_true.1 (List.all_eq_true.1 hs i (List.mem_range.2 hi))
      simp only [Bool.and_eq_true, decide_eq_true_eq] at hj2
      obtain ⟨oj, hoj, e, he, hb, hon⟩ := Region.waitsFor_spec hj2.2
      have hjle : j ≤ n := by have := List.mem_range.1 hj; omega
      rcases Nat.lt_or_eq_of_le hjle with hlt | rfl
      · cases hl : listed.getD j false with
        | true =>
          have h2 := inv.closed j oj hoj hl e he hb
          rw [hon, getD_both hun] at h2
          cases h2
        | false => exact ih (n - j) (by omega) j rfl hlt (getD_in (by rw [inv.size]; omega) hl) hr
      · obtain rfl : oj = ot := Option.some.inj (hoj.symm.trans hot)
        have h2 := hall e he hb
        rw [hon, getD_both hun] at h2
        cases h2
  intro t ht hr
  rcases Nat.lt_or_eq_of_le ht with hlt | rfl
  · obtain ⟨_, ot, hot, hall⟩ := mem_ready.1 hr
    have htlt : t < ops.size := (Array.getElem?_eq_some_iff.1 hot).1
    have h1 := List.all_eq_true.1 hc t (List.mem_range.2 htlt)
    simp only [Bool.or_eq_true, decide_eq_true_eq] at h1
    rcases h1 with h1 | h1
    · omega
    · obtain ⟨j, hj, hj2⟩ := List.any_eq_true.1 h1
      simp only [Bool.and_eq_true, decide_eq_true_eq] at hj2
      obtain ⟨o', ho', e, he, hb, hon⟩ := Region.waitsFor_spec hj2.2
      obtain rfl : o' = ot := Option.some.inj (ho'.symm.trans hot)
      have h2 := hall e he hb
      rw [hon, getD_both (inv.tail j (by omega) (by have := List.mem_range.1 hj; omega))] at h2
      cases h2
  · exact base _ i rfl hi hun hr

/-- One of the reads may be taken first. -/
theorem head_first {n i : Nat} {oi : Oper} {v : Value} {L : Array Bool → Act → Prop} (hi : ops[i]? = some oi) (hsel : ∀ (j : Nat) (o : Oper) cs b, ops[j]? = some o → o.op ≠ .select cs b)
    (hs : Region.sinkB md ops n = true) (hc : weakB md ops n = true) (hn : n < ops.size) (hin : i < n)
    (hdone : ∀ listed a, L listed a → ∀ j ∈ Region.ready md ops listed, n ≤ j) :
    ∀ (f : Nat) (listed : Array Bool) (a : Act), HeadInv md ops n listed →
      (∀ j oj, ops[j]? = some oj → j ≠ i → listed.getD j true = false → (∀ e ∈ oj.after, Region.binds md e = true → e.on ≠ i) → oi.apart ops oj = true) →
      i ∈ Region.ready md ops listed → YieldsAt P ops w oi v a →
      wpAnyL P md ops w n L f (listed.setIfInBounds i true) (a.put oi.dst v) → wpAnyL P md ops w n L (f + 1) listed a := by
  intro f
  induction f with
  | zero =>
    intro listed a inv _ hr hy H
    have hun := (mem_ready.1 hr).1
    refine ⟨fun h => (by rw [h] at hr; cases hr), fun j hj => ?_⟩
    have hjn : j < n := Nat.lt_of_not_le fun h => weak_waits hs hc hn inv hin hun j h hj
    refine ⟨hjn, ?_⟩
    by_cases hji : j = i
    · subst hji; exact hy.stOp hi H
    · have := hdone _ _ H j (ready_mono hj hji)
      omega
  | succ f ih =>
    intro listed a inv hfree hr hy H
    have hun := (mem_ready.1 hr).1
    refine ⟨fun h => (by rw [h] at hr; cases hr), fun j hj => ?_⟩
    have hjn : j < n := Nat.lt_of_not_le fun h => weak_waits hs hc hn inv hin hun j h hj
    refine ⟨hjn, ?_⟩
    by_cases hji : j = i
    · subst hji; exact hy.stOp hi H
    · obtain ⟨hjun, oj, hoj, hall⟩ := mem_ready.1 hj
      have hnot : ∀ e ∈ oj.after, Region.binds md e = true → e.on ≠ i := fun e he hb heq => by
        have h1 := hall e he hb
        rw [heq, getD_both hun] at h1
        cases h1
      have hfree' : ∀ k ok, ops[k]? = some ok → k ≠ i → (listed.setIfInBounds j true).getD k true = false →
          (∀ e ∈ ok.after, Region.binds md e = true → e.on ≠ i) → oi.apart ops ok = true := fun k ok hk hki hu hno => by
        by_cases hjk : j = k
        · subst hjk; exact hfree j ok hk hki hjun hno
        · exact hfree k ok hk hki (by rwa [getD_set_ne true hjk] at hu) hno
      refine stOp_mono (fun a' h3 => ih (listed.setIfInBounds j true) a' (inv.set hj hjn) hfree' (ready_mono hr (Ne.symm hji)) h3.1 ?_)
        (stOp_put hoj (hfree j oj hoj hji hjun hnot) (fun cs b => hsel i oi cs b hi) (fun cs b => hsel j oj cs b hoj) hy (H.2 j (ready_mono hj hji)).2)
      rw [Array.setIfInBounds_comm _ _ hji]
      exact h3.2

/-- an operation that takes a tuple apart or hands a value on: it looks at no memory -/
def evid (o : Oper) : Bool := o.guard.isNone && match o.op with | .extract .. => true | .move _ => true | .assign _ => true | _ => false
/-- the tail in the order of the text -/
def seqE (md : Region.Mode) (ops : Array Oper) : Nat → Nat → Array Bool → Bool
  | 0, _, listed => (Region.ready md ops listed).isEmpty
  | g + 1, k, listed => (decide (Region.ready md ops listed = [k]) || (match ops[k]? with | some o => evid o | none => false) && (Region.ready md ops listed).contains k && Region.free md ops listed k) && seqE md ops g (k + 1) (listed.setIfInBounds k true)
def lexE (md : Region.Mode) (ops : Array Oper) (g : Nat) : Nat → Nat → Array Bool → Bool
  | 0, k, listed => seqE md ops g k listed && (Region.ready md ops listed).all (fun j => decide (k ≤ j))
  | f + 1, k, listed => (Region.ready md ops listed).contains k && Region.free md ops listed k && lexE md ops g f (k + 1) (listed.setIfInBounds k true)
def tailB (md : Region.Mode) (ops : Array Oper) (n : Nat) : Bool :=
  Region.noSelect ops && decide (n < ops.size) && Region.sinkB md ops n && weakB md ops n && lexE md ops (ops.size - n) n 0 (Array.replicate ops.size false)

theorem evid_yields {o : Oper} {a : Act} {w : World} {K : Act → World → Prop} (he : evid o = true)
    (h : if Region.wanted o (yielded ops a.tmps) then o.wp P a w K Q ∨ (o.asks P a w ∧ LetsOut Q) else K (a.put o.dst undef) w) : ∃ v, Yields P ops o v a ∧ K (a.put o.dst v) w := by
  unfold evid at he
  simp only [Bool.and_eq_true, Option.isNone_iff_eq_none] at he
  have hw : Region.wanted o (yielded ops a.tmps) = true := by simp [Region.wanted, he.1]
  rw [if_pos hw] at h
  have key : ∀ v, (∀ w, (execOp a.eval o).run P w = .ok (.value v) w) → noRoomEvent ∉ ((execOp a.eval o).runT P w #[]).2 → ∃ v, Yields P ops o v a ∧ K (a.put o.dst v) w := by
    intro v hv hno
    refine ⟨v, .inl ⟨hw, hv⟩, ?_⟩
    rcases h with h | ⟨h, _⟩
    · unfold Oper.wp at h
      rw [hv w] at h
      exact h
    · exact absurd h.1 hno
  have nope : ∀ v : Next, noRoomEvent ∉ (Sem.runT P (pure v : Sem Next) w #[]).2 := by
    intro v
    show ¬ noRoomEvent ∈ (#[] : Array Event)
    simp
  cases hop : o.op <;> simp [hop] at he
  case move x => exact key _ (fun w => BigFrame.run_move x hop w) (by simp only [execOp, hop]; exact nope _)
  case assign x => exact key _ (fun w => BigFrame.run_assign x hop w) (by simp only [execOp, hop]; exact nope _)
  case extract t i =>
    have bad : ∀ s : String, execOp a.eval o = ((stuck s : Sem Value) >>= fun u => pure (.value u)) → False := by
      intro s hs
      rcases h with h | ⟨h, _⟩
      · unfold Oper.wp at h
        rw [hs] at h
        simp [stuck, Oper.upon, Result.andThen] at h
      · have h1 := h.1
        rw [hs] at h1
        have h2 : noRoomEvent ∈ (#[] : Array Event) := h1
        simp at h2
    have he : execOp a.eval o = (Instr.extract (a.eval t) i >>= fun u => pure (.value u)) := by simp [execOp, hop]
    cases hv : a.eval t
    case tuple vs =>
      cases hi : vs[i]?
      case none => exact (bad "Extract: no such component" (by rw [he, hv]; simp [Instr.extract, hi])).elim
      case some u => exact key u (fun w => by rw [he, hv]; simp [Instr.extract, hi]) (by rw [he, hv]; simp only [Instr.extract, hi]; exact nope _)
    all_goals exact (bad "Extract: tuple expected" (by rw [he, hv]; simp [Instr.extract])).elim

theorem any_seqE (hsel : Region.noSelect ops = true) (hQ : ∀ (d : Option Tmp) (v : Value) c a w, Q (.panic c) (a.put d v) w → Q (.panic c) a w) : ∀ (l : List Oper) (k : Nat) (listed : Array Bool) (a : Act) (w : World), (∀ j, l[j]? = ops[k + j]?) →
    seqE md ops l.length k listed = true → wpList P ops Q l a w → wpAny P md ops Q l.length listed a w
  | [], k, listed, a, w, hl, hB, h => ⟨by simpa [seqE] using hB, h⟩
  | o :: l, k, listed, a, w, hl, hB, h => by
    have h0 : ops[k]? = some o := by simpa using (hl 0).symm
    have hnext : ∀ j, l[j]? = ops[k + 1 + j]? := fun j => by have := hl (j + 1); simpa [Nat.add_assoc, Nat.add_comm 1 j] using this
    simp only [List.length_cons, seqE, Bool.and_eq_true, Bool.or_eq_true, decide_eq_true_eq, h0] at hB
    obtain ⟨h1 | ⟨⟨h1, h2⟩, h3⟩, hB'⟩ := hB
    · refine ⟨fun h2 => (by rw [h1] at h2; cases h2), fun i hi => ?_⟩
      rw [h1] at hi
      obtain rfl : i = k := by simpa using hi
      have hw : wpOp P ops Q i (wpList P ops Q l) a w := by unfold wpOp; simp only [h0]; exact h
      exact wpOp_mono (fun a' w' h' => any_seqE hsel hQ l (i + 1) _ a' w' hnext hB' h') hw
    · obtain ⟨v, hy, hK⟩ := evid_yields (w := w) (K := wpList P ops Q l) h1 h
      exact wpAny_take h0 hsel h3 h2 (hQ _ _) hy (any_seqE hsel hQ l (k + 1) _ _ w hnext hB' hK)

theorem head_lex {n g : Nat} {Lq : Act → Prop} (hsel : Region.noSelect ops = true) (hs : Region.sinkB md ops n = true) (hc : weakB md ops n = true) (hn : n < ops.size) :
    ∀ (l : List Oper) (k : Nat) (listed : Array Bool) (a : Act), (∀ j, j < l.length → l[j]? = ops[k + j]?) → k + l.length = n → HeadInv md ops n listed →
    lexE md ops g l.length k listed = true → wpStill P ops w Lq l a →
    wpAnyL P md ops w n (fun listed' a' => (seqE md ops g n listed' = true ∧ ∀ j ∈ Region.ready md ops listed', n ≤ j) ∧ Lq a') l.length listed a
  | [], k, listed, a, _, hk, _, hB, h => by
    obtain rfl : k = n := by simpa using hk
    simp only [List.length_nil, lexE, Bool.and_eq_true, List.all_eq_true, decide_eq_true_eq] at hB
    exact ⟨hB, h⟩
  | o :: l, k, listed, a, hl, hk, inv, hB, h => by
    have h0 : ops[k]? = some o := by simpa using (hl 0 (by simp)).symm
    simp only [List.length_cons, lexE, Bool.and_eq_true] at hB
    obtain ⟨⟨hr, hf⟩, hB'⟩ := hB
    have hkn : k < n := by simp only [List.length_cons] at hk; omega
    have hr' : k ∈ Region.ready md ops listed := by simpa using hr
    have hst : stOp P ops w k (wpStill P ops w Lq l) a := by unfold stOp; simp only [h0]; exact h
    obtain ⟨v, hy, hK⟩ := yieldsAt_of_stOp h0 hst
    exact head_first h0 (Region.noSelect_spec hsel) hs hc hn hkn (fun listed' a' hL => hL.1.2) l.length listed a inv (Region.free_spec h0 hf) hr' hy
      (head_lex hsel hs hc hn l (k + 1) _ _ (fun j hj => by have := hl (j + 1) (by simp; omega); simpa [Nat.add_assoc, Nat.add_comm 1 j] using this) (by simp only [List.length_cons] at hk; omega) (inv.set hr' hkn) hB' hK)

/-- Reads first (n of them), then in the order of the text. -/
theorem lex_tail {id : Nat} {a : Act} {w : World} {l : List Oper} (n : Nat) (hm : P.follows .mixedOrders = true) (hB : tailB .any l.toArray n = true) (hQ : ∀ (d : Option Tmp) (v : Value) c a w, Q (.panic c) (a.put d v) w → Q (.panic c) a w)
    (h : wpStill P l.toArray w.drew (fun a' => wpList P l.toArray Q (l.drop n) a' w.drew) (l.take n) a) : (Code.region id l.toArray true).wp P Q a w := by
  simp only [tailB, Bool.and_eq_true, decide_eq_true_eq] at hB
  obtain ⟨⟨⟨⟨hsel, hn⟩, hs⟩, hc⟩, hlex⟩ := hB
  have hn' : n < l.length := by simpa using hn
  have htl : (l.take n).length = n := by simp; omega
  have hdl : (l.drop n).length = l.toArray.size - n := by simp
  have inv0 : HeadInv .any l.toArray n (Array.replicate l.toArray.size false) :=
    ⟨by simp, fun j oj _ hl => (by rw [getD_replicate_false] at hl; cases hl), fun t _ ht => getD_in (by simpa using ht) (getD_replicate_false _ _)⟩
  have H := head_lex (md := .any) (g := l.toArray.size - n) hsel hs hc hn (l.take n) 0 _ a (fun j hj => by
    have hj' : j < n := by rw [htl] at hj; exact hj
    simp [hj']) (by simpa using htl) inv0 (by rw [htl]; exact hlex) h
  refine wp_region_any hm ?_
  have := wpAny_of_head (Q' := Q) (g := l.toArray.size - n) (fun listed a' hL => by
    have := any_seqE (md := .any) hsel hQ (l.drop n) n listed a' w.drew (fun j => by simp [List.getElem?_drop]) (by rw [hdl]; exact hL.1.1) hL.2
    rwa [hdl] at this) _ _ _ H
  rw [htl, show n + (l.toArray.size - n) = l.toArray.size by omega] at this
  exact this
end
end Go.Proofs.YtpdhoojjcgohpaaGreat
