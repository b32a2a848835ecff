
/- Contracts of Ethernet in one form for all inputs; a parameter that is a packet. -/
import Derived.Test.YtpdhoojjcgohpaaEthR
namespace Go.Proofs.Ytpdhoojjcgohpaa
set_option maxRecDepth 4000
open Go.RowKit Go.Sort
set_option linter.unusedVariables false

def HeadU (w : World) (t f ty : Int) (e : Ending) (w' : World) : Prop :=
  ∃ A n c cs, e = .returned (.tuple #[.slice A n c, .int .i64 (headE t f)]) ∧ Byt w' A n cs ∧ n ≤ c ∧ strOfNums cs = headS t f ty ∧ (n = if headOk t f then 14 else 0) ∧ Only (fun _ => False) w w'
theorem eh_u (t f ty : Int) (A : Option Addr) (m c : Nat) (w : World) (h : PkB t f ty) :
    Calls Try.prog 55 #[.agg #[.int .u64 t, .int .u64 f, .int .u16 ty, .slice A m c]] w (HeadU w t f ty) := by
  refine (eh_any t f ty A m c w h).mono ?_
  rintro e w1 (⟨hk, A', c', rfl, hob⟩ | ⟨hk, rfl, ho⟩)
  · exact ⟨A', 14, c', _, by unfold headE; rw [if_pos hk], hob.byt, hob.mid.le, by unfold headS; rw [if_pos hk], by rw [if_pos hk], hob.only⟩
  · exact ⟨none, 0, 0, [], by unfold headE; rw [if_neg hk], Byt.zero _ _, Nat.le_refl _, by unfold headS; rw [if_neg hk]; rfl, by rw [if_neg hk], ho⟩
def EBU (w : World) (t f ty : Int) (s : ByteArray) (e : Ending) (w' : World) : Prop :=
  ∃ A n c cs, e = .returned (.tuple #[.slice A n c, .int .i64 (ebE t f s)]) ∧ Byt w' A n cs ∧ n ≤ c ∧ c ≤ maxLen ∧ strOfNums cs = ebS t f ty s ∧ n ≤ 1024 ∧ Only (fun _ => False) w w'
theorem ebytes_u (t f ty : Int) (A : Option Addr) (c : Nat) (s : ByteArray) (w : World) (h : PkB t f ty) (hb : Byt w A s.size (codes s)) (hm : s.size ≤ 100000) :
    Calls Try.prog 37 #[.agg #[.int .u64 t, .int .u64 f, .int .u16 ty, .slice A s.size c]] w (EBU w t f ty s) := by
  refine (ebytes_any t f ty A s.size c (codes s) w h hb hm).mono ?_
  rintro e w1 (⟨hk, hl, A', c', rfl, hob⟩ | ⟨hk, rfl, ho⟩ | ⟨hk, hl, rfl, ho⟩)
  · exact ⟨A', 14 + s.size, c', _, by unfold ebE; rw [if_pos hk, if_pos hl], hob.byt, hob.mid.le, hob.mid.cm, by unfold ebS; rw [if_pos ⟨hk, hl⟩, ← strs_app, str_codes], hl, hob.only⟩
  · exact ⟨none, 0, 0, [], by unfold ebE; rw [if_neg hk], Byt.zero _ _, Nat.le_refl _, Nat.zero_le _, by unfold ebS; rw [if_neg (fun h => hk h.1)]; rfl, by omega, ho⟩
  · exact ⟨none, 0, 0, [], by unfold ebE; rw [if_pos hk, if_neg (by omega)], Byt.zero _ _, Nat.le_refl _, Nat.zero_le _, by unfold ebS; rw [if_neg (fun h => by have := h.2; omega)]; rfl, by omega, ho⟩
/-- what is parsed -/
structure Pd where
  a : Int
  b : Int
  c : Int
  l : List Int
  d : Int
def pF (cs : List Int) : Pd := if 1024 < cs.length then ⟨0, 0, 0, [], 2⟩ else if cs.length < 14 then ⟨0, 0, 0, [], 50⟩ else ⟨numV (cs.take 6), numV ((cs.drop 6).take 6), numV ((cs.drop 12).take 2), cs.drop 14, 0⟩
theorem pF_big {cs : List Int} (h : 1024 < cs.length) : pF cs = ⟨0, 0, 0, [], 2⟩ := if_pos h
theorem pF_small {cs : List Int} (h : cs.length < 14) : pF cs = ⟨0, 0, 0, [], 50⟩ := by unfold pF; rw [if_neg (by omega), if_pos h]
theorem pF_ok {cs : List Int} (h : 14 ≤ cs.length) (h2 : cs.length ≤ 1024) : pF cs = ⟨numV (cs.take 6), numV ((cs.drop 6).take 6), numV ((cs.drop 12).take 2), cs.drop 14, 0⟩ := by unfold pF; rw [if_neg (by omega), if_neg (by omega)]
def ParseU (w : World) (p : Pd) (e : Ending) (w' : World) : Prop :=
  ∃ B cb, e = .returned (.tuple #[.agg #[.int .u64 p.a, .int .u64 p.b, .int .u16 p.c, .slice B p.l.length cb], .int .i64 p.d]) ∧ Byt w' B p.l.length p.l ∧ p.l.length ≤ cb ∧ cb ≤ maxLen ∧ (0 < p.l.length → w.heap.size < bk B) ∧ Only (fun _ => False) w w'
theorem eparse_u (A : Option Addr) (n c : Nat) (cs : List Int) (w : World) (hb : Byt w A n cs) (hn : n ≤ 100000) :
    Calls Try.prog 34 #[.slice A n c] w (ParseU w (pF cs)) := by
  have hl := hb.len
  refine (eparse_any A n c cs w hb hn).mono ?_
  rintro e w1 (⟨h1, h2, B, cb, rfl, hob⟩ | ⟨h1, rfl, ho⟩ | ⟨h1, rfl, ho⟩)
  · rw [pF_ok (by omega) (by omega)]
    have hlen : (cs.drop 14).length = n - 14 := by rw [List.length_drop, hl]
    refine ⟨B, cb, by rw [hlen], ?_, ?_, hob.mid.cm, fun h0 => by
      simp only [hlen] at h0
      by_cases hz : 0 < bk B
      · have := hob.mid.lo hz; omega
      · have := hob.mid.sl.lt (by omega); omega, hob.only⟩
    · simp only [hlen]; exact hob.byt
    · simp only [hlen]; exact hob.mid.le
  · rw [pF_big (by omega)]
    exact ⟨none, 0, rfl, Byt.zero _ _, Nat.le_refl _, Nat.zero_le _, fun h => absurd h (Nat.lt_irrefl 0), ho⟩
  · rw [pF_small (by omega)]
    exact ⟨none, 0, rfl, Byt.zero _ _, Nat.le_refl _, Nat.zero_le _, fun h => absurd h (Nat.lt_irrefl 0), ho⟩
def rpk (p : Pd) : Value := .agg #[.int .u64 p.a, .int .u64 p.b, .int .u16 p.c, .string (strOfNums p.l)]
theorem u64_bd {n : Int} (hw : (Lit.int .u64 n).wf = true) : 0 ≤ n ∧ n < 18446744073709551616 := by
  have hk : IntKind.u64.min ≤ n ∧ n ≤ IntKind.u64.max := by simpa [Lit.wf] using hw
  have e1 : IntKind.u64.min = 0 := by decide
  have e2 : IntKind.u64.max = 18446744073709551615 := by decide
  omega
theorem u32_bd {n : Int} (hw : (Lit.int .u32 n).wf = true) : 0 ≤ n ∧ n < 4294967296 := by
  have hk : IntKind.u32.min ≤ n ∧ n ≤ IntKind.u32.max := by simpa [Lit.wf] using hw
  have e1 : IntKind.u32.min = 0 := by decide
  have e2 : IntKind.u32.max = 4294967295 := by decide
  omega
theorem u16_bd {n : Int} (hw : (Lit.int .u16 n).wf = true) : 0 ≤ n ∧ n < 65536 := by
  have hk : IntKind.u16.min ≤ n ∧ n ≤ IntKind.u16.max := by simpa [Lit.wf] using hw
  have e1 : IntKind.u16.min = 0 := by decide
  have e2 : IntKind.u16.max = 65535 := by decide
  omega
theorem seen_pk {w : World} {v : Value} (s : Seen w 70 v) : ∃ t f ty s, v = .agg #[.int .u64 t, .int .u64 f, .int .u16 ty, .string s] ∧ PkB t f ty ∧ s.size ≤ maxLen := by
  obtain ⟨cs, rfl, hr⟩ := s.struct Try.underlying70
  obtain ⟨hl, hf⟩ := hr.struct Try.underlying70
  have hc : Try.prog.cellsOf 70 = 4 := by kernel_rfl
  rw [hc] at hl
  obtain ⟨x0, x1, x2, x3, hx⟩ : ∃ x0 x1 x2 x3, cs.toList = [x0, x1, x2, x3] := by
    match h : cs.toList, hl with
    | [a, b, c, d], _ => exact ⟨a, b, c, d, rfl⟩
  rw [hx] at hf
  have f0 : Reads w 22 [x0] := hf 0 _ rfl
  have f1 : Reads w 22 [x1] := hf 1 _ rfl
  have f2 : Reads w 26 [x2] := hf 2 _ rfl
  have f3 : Reads w 9 [x3] := hf 3 _ rfl
  obtain ⟨n0, e0, w0⟩ := f0.int (k := .u64) Try.underlying22
  obtain ⟨n1, e1, w1⟩ := f1.int (k := .u64) Try.underlying22
  obtain ⟨n2, e2, w2⟩ := f2.int (k := .u16) Try.underlying26
  obtain ⟨n3, e3, w3⟩ := f3.str Try.underlying9
  simp only [List.cons.injEq, and_true] at e0 e1 e2 e3
  subst e0 e1 e2 e3
  refine ⟨n0, n1, n2, n3, ?_, ⟨(u64_bd w0).1, (u64_bd w0).2, (u64_bd w1).1, (u64_bd w1).2, (u16_bd w2).1, (u16_bd w2).2⟩, w3⟩
  congr 1
  apply Array.ext'
  exact hx
theorem eq_pk (w : World) (a b c : Int) (s : ByteArray) : (binOp .eql 70 (.agg #[.int .u64 a, .int .u64 b, .int .u16 c, .string s]) (.agg #[.int .u64 a, .int .u64 b, .int .u16 c, .string s])).run Try.prog w = .ok (.bool true) w := by
  have h1 : Try.prog.stoodInHeld 70 = false := by kernel_rfl
  simp [go_sem, h1]
end Go.Proofs.Ytpdhoojjcgohpaa
