
/- Slices of bytes: what they hold, cut and copied; bytes to strings and back. -/
import Derived.Test.YtpdhoojjcgohpaaOwn
import Derived.Laws.BytesArg
import Derived.Laws.IdiomStrings
import Derived.Lib.ConvBytes
import Derived.Lib.SlBytesConst
namespace Go.Proofs.Ytpdhoojjcgohpaa
set_option maxRecDepth 4000
open Go.RowKit
set_option linter.unusedVariables false

/-- the i-th byte -/
def gb (b : List Int) (i : Nat) : Int := b.getD i 0
theorem gb_set_same {L : List Int} {i : Nat} (h : i < L.length) (x : Int) : gb (L.set i x) i = x := by
  unfold gb; rw [List.getD_eq_getElem?_getD, List.getElem?_set_self h]; rfl
theorem gb_set_ne {L : List Int} {i j : Nat} (h : i ≠ j) (x : Int) : gb (L.set i x) j = gb L j := by
  unfold gb; rw [List.getD_eq_getElem?_getD, List.getElem?_set_ne h, ← List.getD_eq_getElem?_getD]
theorem gb_drop (cs : List Int) (k j : Nat) : gb (cs.drop k) j = gb cs (k + j) := by simp [gb, List.getD_eq_getElem?_getD, List.getElem?_drop]
theorem gb_take {cs : List Int} {k j : Nat} (h : j < k) : gb (cs.take k) j = gb cs j := by simp [gb, List.getD_eq_getElem?_getD, h]
theorem gb_getElem {cs : List Int} {j : Nat} (h : j < cs.length) : gb cs j = cs[j] := by simp [gb, List.getD_eq_getElem?_getD, List.getElem?_eq_getElem h]
/-- bytes, all of them -/
def AllB (cs : List Int) : Prop := ∀ j, 0 ≤ gb cs j ∧ gb cs j ≤ 255
theorem AllB.nil : AllB [] := fun j => by simp [gb]
theorem AllB.take {cs : List Int} (k : Nat) (h : AllB cs) : AllB (cs.take k) := by
  intro j
  by_cases hj : j < k
  · rw [gb_take hj]; exact h j
  · simp [gb, List.getD_eq_getElem?_getD, List.getElem?_take, hj]
theorem AllB.drop {cs : List Int} (k : Nat) (h : AllB cs) : AllB (cs.drop k) := fun j => by rw [gb_drop]; exact h _
theorem AllB.app {a b : List Int} (h : AllB a) (k : AllB b) : AllB (a ++ b) := by
  intro j
  unfold gb
  rw [List.getD_eq_getElem?_getD]
  by_cases hj : j < a.length
  · rw [List.getElem?_append_left hj, ← List.getD_eq_getElem?_getD]; exact h j
  · rw [List.getElem?_append_right (by omega), ← List.getD_eq_getElem?_getD]; exact k _
theorem AllB.one {c : Int} (h : 0 ≤ c ∧ c ≤ 255) : AllB [c] := by
  intro j
  cases j with
  | zero => simpa [gb] using h
  | succ j => simp [gb]
theorem AllB.of_mem {cs : List Int} (h : ∀ c ∈ cs, 0 ≤ c ∧ c ≤ 255) : AllB cs := by
  intro j
  by_cases hj : j < cs.length
  · rw [gb_getElem hj]; exact h _ (List.getElem_mem _)
  · simp [gb, List.getD_eq_getElem?_getD, List.getElem?_eq_none (show cs.length ≤ j by omega)]
theorem AllB.mem {cs : List Int} (h : AllB cs) : ∀ c ∈ cs, 0 ≤ c ∧ c ≤ 255 := by
  intro c hc
  obtain ⟨i, hi, rfl⟩ := List.getElem_of_mem hc
  rw [← gb_getElem hi]; exact h i
theorem AllB.set {cs : List Int} (i : Nat) {c : Int} (h : AllB cs) (hc : 0 ≤ c ∧ c ≤ 255) : AllB (cs.set i c) := by
  intro j
  by_cases e : i = j
  · subst e
    by_cases hi : i < cs.length
    · rw [gb_set_same hi]; exact hc
    · rw [List.set_eq_of_length_le (by omega)]; exact h i
  · rw [gb_set_ne e]; exact h j

/-- a slice of bytes -/
structure Byt (w : World) (A : Option Addr) (n : Nat) (cs : List Int) : Prop where
  len : cs.length = n
  bd : AllB cs
  at_ : 0 < n → ∃ b off, A = some ⟨b, off, none⟩ ∧ ∀ j, j < n → w.cell? ⟨b, off + j, none⟩ = some (.int .u8 (gb cs j))
theorem Byt.zero (w : World) (A : Option Addr) : Byt w A 0 [] := ⟨rfl, AllB.nil, fun h => absurd h (by omega)⟩
theorem Byt.mem {w : World} {A : Option Addr} {n : Nat} {cs : List Int} (h : Byt w A n cs) : ∀ c ∈ cs, 0 ≤ c := fun c hc => (h.bd.mem c hc).1
theorem Byt.cut {w : World} {b off n k : Nat} {cs : List Int} (h : Byt w (some ⟨b, off, none⟩) n cs) (hk : k ≤ n) : Byt w (some ⟨b, off + k, none⟩) (n - k) (cs.drop k) :=
  ⟨by rw [List.length_drop, h.len], h.bd.drop k, fun hn => ⟨b, off + k, rfl, fun j hj => by
    obtain ⟨b', off', e, hc⟩ := h.at_ (by omega)
    simp only [Option.some.injEq, Addr.mk.injEq, and_true] at e
    obtain ⟨rfl, rfl⟩ := e
    rw [gb_drop, Nat.add_assoc]
    exact hc (k + j) (by omega)⟩⟩
theorem Byt.cutM {w : World} {A : Option Addr} {n k : Nat} {cs : List Int} (h : Byt w A n cs) (hk : k ≤ n) : Byt w (A.map (·.add k)) (n - k) (cs.drop k) := by
  rcases Nat.eq_zero_or_pos n with h0 | h0
  · subst h0
    have e : cs = [] := List.eq_nil_of_length_eq_zero h.len
    subst e
    exact ⟨by simp, by simpa using AllB.nil, fun h => absurd h (by omega)⟩
  · obtain ⟨b, off, rfl, _⟩ := h.at_ h0
    have e : Option.map (fun x : Addr => x.add k) (some ⟨b, off, none⟩) = some ⟨b, off + k, none⟩ := by simp only [Option.map_some, Addr.add]; split <;> simp_all
    rw [e]
    exact h.cut hk
theorem Byt.end_ {w : World} {A B : Option Addr} {n k : Nat} {cs : List Int} (h : Byt w A n cs) (hk : k = n) : Byt w B (n - k) (cs.drop k) := by
  subst hk
  have e : cs.drop k = [] := List.drop_eq_nil_of_le (by have := h.len; omega)
  rw [e, Nat.sub_self]
  exact Byt.zero _ _
theorem Byt.take {w : World} {A : Option Addr} {n m : Nat} {cs : List Int} (h : Byt w A n cs) (hm : m ≤ n) : Byt w A m (cs.take m) :=
  ⟨by rw [List.length_take, h.len]; omega, h.bd.take m, fun h0 => by
    obtain ⟨b, off, e, hc⟩ := h.at_ (by omega)
    exact ⟨b, off, e, fun j hj => by rw [gb_take hj]; exact hc j (by omega)⟩⟩
theorem Byt.lt {w : World} {A : Option Addr} {n : Nat} {cs : List Int} (h : Byt w A n cs) (hn : 0 < n) : 0 < bk A ∧ bk A ≤ w.heap.size := by
  obtain ⟨b, off, rfl, hc⟩ := h.at_ hn
  have := lt_of_cell (hc 0 hn)
  simp only [bk_some]
  exact ⟨Nat.succ_pos _, this⟩
theorem Byt.only {w w' : World} {A : Option Addr} {n : Nat} {cs : List Int} {S : Nat → Prop} (h : Byt w A n cs) (ho : Only S w w') (hs : 0 < n → ∀ k, k + 1 = bk A → ¬ S k) : Byt w' A n cs :=
  ⟨h.len, h.bd, fun hn => by
    obtain ⟨b, off, rfl, hc⟩ := h.at_ hn
    exact ⟨b, off, rfl, fun j hj => (ho.cell (p := ⟨b, off + j, none⟩) (lt_of_cell (hc j hj)) (hs hn b rfl)).trans (hc j hj)⟩⟩
theorem Byt.below {w w' : World} {A : Option Addr} {n B : Nat} {cs : List Int} (h : Byt w A n cs) (hb : Below B w w') (hs : 0 < n → bk A ≤ B) : Byt w' A n cs :=
  h.only (Only.of_below hb) (fun hn k hk e => by have := hs hn; omega)
theorem Byt.drewN {w : World} {A : Option Addr} {n : Nat} {cs : List Int} (h : Byt w A n cs) (k : Nat) : Byt (w.drewN k) A n cs := ⟨h.len, h.bd, h.at_⟩
theorem Byt.of_own {w : World} {B : Nat} {A : Option Addr} {n c : Nat} {cs : List Int} (h : w.ownsRow B 5 1 (.slice A n c) n (cs.map (Value.int .u8))) (hb : AllB cs) : Byt w A n cs := by
  have hl : cs.length = n := by have := h.1; simpa using this
  refine ⟨hl, hb, fun hn => ?_⟩
  obtain ⟨g, rfl, _⟩ := own_at h (j := 0) (by omega)
  refine ⟨g, 0, rfl, fun j hj => ?_⟩
  obtain ⟨g', e, hc⟩ := own_at h (j := j) (by omega)
  simp only [Option.some.injEq, Addr.mk.injEq, and_true] at e
  subst e
  rw [Nat.zero_add, hc, List.getElem?_map, List.getElem?_eq_getElem (by omega), gb_getElem (by omega)]
  rfl
/-- as append's laws ask for its source -/
theorem Byt.row {w : World} {A : Option Addr} {n B : Nat} {cs : List Int} (h : Byt w A n cs) (hB : w.heap.size ≤ B) : Row_ w B 1 A n (cs.map (Value.int .u8)) := by
  refine ⟨by simp [h.len], fun hn => ?_⟩
  obtain ⟨b, off, rfl, hc⟩ := h.at_ hn
  refine ⟨_, rfl, Nat.lt_of_lt_of_le (lt_of_cell (hc 0 hn)) hB, fun j u hu => ?_⟩
  have hj : j < cs.length := by
    have := (List.getElem?_eq_some_iff.1 hu).1
    simpa using this
  have e : (⟨b, off, none⟩ : Addr).add j = ⟨b, off + j, none⟩ := by unfold Addr.add; split <;> simp_all
  rw [e, hc j (by have := h.len; omega)]
  rw [List.getElem?_map, List.getElem?_eq_getElem hj] at hu
  rw [gb_getElem hj]
  exact hu
theorem one_u8 {cs : List Int} : ∀ u ∈ cs.map (Value.int .u8), u.oneCell' = true := one_int

/-! ### Strings -/
def codes (s : ByteArray) : List Int := s.data.toList.map fun b => (b.toNat : Int)
theorem codes_len (s : ByteArray) : (codes s).length = s.size := by unfold codes; rw [List.length_map]; rfl
theorem codes_bd (s : ByteArray) : AllB (codes s) := by
  refine AllB.of_mem fun c hc => ?_
  obtain ⟨b, _, rfl⟩ := List.mem_map.1 hc
  have := b.toNat_lt
  omega
theorem str_codes (s : ByteArray) : strOfNums (codes s) = s := by
  have h : (codes s).map (fun n : Int => UInt8.ofNat n.toNat) = s.data.toList := by
    unfold codes
    rw [List.map_map]
    conv => rhs; rw [← List.map_id s.data.toList]
    refine List.map_congr_left fun b _ => ?_
    simp
  unfold strOfNums
  rw [h]
theorem codes_str {cs : List Int} (h : AllB cs) : codes (strOfNums cs) = cs := by
  unfold codes
  rw [strOfNums_data, List.map_map]
  conv => rhs; rw [← List.map_id cs]
  refine List.map_congr_left fun c hc => ?_
  have := h.mem c hc
  simp only [Function.comp, id]
  rw [UInt8.toNat_ofNat_of_lt' (by simp [UInt8.size]; omega)]
  omega
theorem str_inj {a b : List Int} (ha : AllB a) (hb : AllB b) (h : strOfNums a = strOfNums b) : a = b := by
  rw [← codes_str ha, ← codes_str hb, h]
theorem codes_inj {s t : ByteArray} (h : codes s = codes t) : s = t := by rw [← str_codes s, ← str_codes t, h]
theorem str_size (cs : List Int) : (strOfNums cs).size = cs.length := strOfNums_size cs

/-- '[]byte(s)': the world behind it -/
theorem only_bytesWorld (w : World) (e : TypeId) (s : ByteArray) : Only (fun _ => False) w (Lib.bytesWorld w e s) :=
  ⟨rfl, rfl, rfl, by rw [Lib.bytesWorld_size]; omega, fun k hk _ => Lib.bytesWorld_at_old w e s k hk⟩
theorem byt_bytesWorld (w : World) (s : ByteArray) : Byt (Lib.bytesWorld w 5 s) (some ⟨w.heap.size, 0, none⟩) s.size (codes s) := by
  refine ⟨codes_len s, codes_bd s, fun hn => ⟨w.heap.size, 0, rfl, fun j hj => ?_⟩⟩
  rw [Nat.zero_add, Lib.bytesWorld_cell w 5 s j hj]
  have hj' : j < s.data.toList.length := hj
  unfold gb codes
  rw [List.getD_eq_getElem?_getD, List.getD_eq_getElem?_getD, List.getElem?_map, List.getElem?_eq_getElem hj']
  rfl
/-- 'string(b)' of any slice of bytes -/
theorem conv_bs {w : World} {A : Option Addr} {n c : Nat} {cs : List Int} (h : Byt w A n cs) (src dst : TypeId) (hs : Try.prog.underlying src = some (.slice 5)) (he : Try.prog.underlying 5 = some (.int .u8)) (hd : Try.prog.underlying dst = some .string) :
    (convert src dst (.slice A n c)).run Try.prog w = .ok (.string (strOfNums cs)) w := by
  rcases Nat.eq_zero_or_pos n with h0 | h0
  · subst h0
    have hcs : cs = [] := List.eq_nil_of_length_eq_zero h.len
    subst hcs
    cases A with
    | none =>
      have := run_convert_bytes_nil (P := Try.prog) w src 5 hs he 0 c dst hd
      rw [this]
      rfl
    | some a =>
      rw [run_convert_bytes_string w src dst 5 (some a) 0 c hs he hd, run_bytesToString w a 0 c [] (by simpa using run_loadCells_list (P := Try.prog) w a [] (by simp))]
      rfl
  · obtain ⟨b, off, rfl, hc⟩ := h.at_ h0
    exact run_convert_bytes_arg w src 5 hs he b off n c cs h.len (fun i hi => hc i hi) dst hd
/-- '[]byte("constant")' behind its literal row: the bytes -/
theorem byt_mark (w : World) (cs : List Int) (hb : AllB cs) (C : Array Value) (hC : C = (cs.map (Value.int .u8)).toArray) (f : Nat × Nat) : Byt (w.alloc (.cells C 5 f)) (some ⟨w.heap.size, 0, none⟩) cs.length cs := by
  refine ⟨rfl, hb, fun hn => ⟨w.heap.size, 0, rfl, fun j hj => ?_⟩⟩
  rw [Nat.zero_add, World.cell?_alloc_mark, hC]
  simp [gb, List.getD_eq_getElem?_getD, List.getElem?_eq_getElem hj]

/-- a parameter of bytes -/
theorem seen_bytes {w : World} {t : TypeId} {v : Value} (s : Seen w t v) (ht : Try.prog.underlying t = some (.slice 5)) : ∃ A n c cs, v = .slice A n c ∧ n ≤ c ∧ c ≤ maxLen ∧ Byt w A n cs := by
  obtain ⟨A, n, c, rfl, h1, h2, h3⟩ := s.slice (sz := 1) ht (by kernel_rfl) (by decide)
  have hx : ∀ i, i < n → ∃ b off x, A = some ⟨b, off, none⟩ ∧ w.cell? ⟨b, off + i, none⟩ = some (.int .u8 x) ∧ 0 ≤ x ∧ x ≤ 255 := by
    intro i hi
    obtain ⟨b, off, cs', rfl, hb, hl, hc, hr⟩ := h3 i hi
    obtain ⟨x, rfl, hw⟩ := hr.int (k := .u8) Try.underlying5
    have h0 := hc 0 (by decide)
    simp only [Nat.mul_one, Nat.add_zero, List.getElem?_cons_zero] at h0
    have hk : IntKind.u8.min ≤ x ∧ x ≤ IntKind.u8.max := by simpa [Lit.wf] using hw
    have e1 : IntKind.u8.min = 0 := by decide
    have e2 : IntKind.u8.max = 255 := by decide
    rw [e1, e2] at hk
    exact ⟨b, off, x, rfl, h0, hk.1, hk.2⟩
  rcases Nat.eq_zero_or_pos n with h0 | h0
  · subst h0
    exact ⟨A, 0, c, [], rfl, h1, h2, Byt.zero _ _⟩
  · obtain ⟨b, off, x0, rfl, _⟩ := hx 0 h0
    let f : Nat → Int := fun i => match w.cell? ⟨b, off + i, none⟩ with | some (.int _ x) => x | _ => 0
    have hf : ∀ i, i < n → w.cell? ⟨b, off + i, none⟩ = some (.int .u8 (f i)) ∧ 0 ≤ f i ∧ f i ≤ 255 := by
      intro i hi
      obtain ⟨b', off', x, e, hc, hk⟩ := hx i hi
      simp only [Option.some.injEq, Addr.mk.injEq, and_true] at e
      obtain ⟨rfl, rfl⟩ := e
      have : f i = x := by show (match w.cell? ⟨b, off + i, none⟩ with | some (.int _ x) => x | _ => 0) = x; rw [hc]
      rw [this]; exact ⟨hc, hk⟩
    have hl : ((List.range n).map f).length = n := by simp
    have hg : ∀ i, i < n → gb ((List.range n).map f) i = f i := fun i hi => by
      rw [gb_getElem (by rw [hl]; exact hi)]; simp
    refine ⟨_, n, c, (List.range n).map f, rfl, h1, h2, hl, AllB.of_mem fun y hy => ?_, fun _ => ⟨b, off, rfl, fun j hj => by rw [hg j hj]; exact (hf j hj).1⟩⟩
    obtain ⟨i, hi, rfl⟩ := List.mem_map.1 hy
    exact (hf i (by simpa using hi)).2
end Go.Proofs.Ytpdhoojjcgohpaa
