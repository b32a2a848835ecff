
/- Segments: the statements' own conversions, the chapter's example, a parameter that is a segment. -/
import Derived.Test.YtpdhoojjcgohpaaSegQ
import Derived.Test.YtpdhoojjcgohpaaSegR
namespace Go.Proofs.Ytpdhoojjcgohpaa
set_option maxRecDepth 4000
open Go.RowKit Go.Sort
set_option linter.unusedVariables false

def SOfPost (w : World) (s : Sg) (b : ByteArray) (e : Ending) (w' : World) : Prop :=
  ∃ A c, e = .returned (sgv s (.slice A b.size c)) ∧ Byt w' A b.size (codes b) ∧ b.size ≤ c ∧ c ≤ maxLen ∧ Only (fun _ => False) w w'
theorem su_bd {k : IntKind} {n : Int} (hw : (Lit.int k n).wf = true) : k.min ≤ n ∧ n ≤ k.max := by simpa [Lit.wf] using hw
theorem seen_sg {w : World} {v : Value} (s : Seen w 40 v) : ∃ (s : Sg) (b : ByteArray), v = sgv s (.string b) ∧ SgB s ∧ b.size ≤ maxLen := by
  obtain ⟨cs, rfl, hr⟩ := s.struct Try.underlying40
  obtain ⟨hl, hf⟩ := hr.struct Try.underlying40
  have hc : Try.prog.cellsOf 40 = 8 := by kernel_rfl
  rw [hc] at hl
  obtain ⟨x0, x1, x2, x3, x4, x5, x6, x7, hx⟩ : ∃ x0 x1 x2 x3 x4 x5 x6 x7, cs.toList = [x0, x1, x2, x3, x4, x5, x6, x7] := by
    match h : cs.toList, hl with
    | [a, b, c, d, e, f, g, k], _ => exact ⟨a, b, c, d, e, f, g, k, rfl⟩
  rw [hx] at hf
  have f0 : Reads w 26 [x0] := hf 0 _ rfl
  have f1 : Reads w 26 [x1] := hf 1 _ rfl
  have f2 : Reads w 23 [x2] := hf 2 _ rfl
  have f3 : Reads w 23 [x3] := hf 3 _ rfl
  have f4 : Reads w 3 [x4] := hf 4 _ rfl
  have f5 : Reads w 26 [x5] := hf 5 _ rfl
  have f6 : Reads w 3 [x6] := hf 6 _ rfl
  have f7 : Reads w 9 [x7] := hf 7 _ rfl
  obtain ⟨n0, e0, w0⟩ := f0.int (k := .u16) Try.underlying26
  obtain ⟨n1, e1, w1⟩ := f1.int (k := .u16) Try.underlying26
  obtain ⟨n2, e2, w2⟩ := f2.int (k := .u32) Try.underlying23
  obtain ⟨n3, e3, w3⟩ := f3.int (k := .u32) Try.underlying23
  obtain ⟨n4, e4, w4⟩ := f4.int (k := .i64) Try.underlying3
  obtain ⟨n5, e5, w5⟩ := f5.int (k := .u16) Try.underlying26
  obtain ⟨n6, e6, w6⟩ := f6.int (k := .i64) Try.underlying3
  obtain ⟨n7, e7, w7⟩ := f7.str Try.underlying9
  simp only [List.cons.injEq, and_true] at e0 e1 e2 e3 e4 e5 e6 e7
  subst e0 e1 e2 e3 e4 e5 e6 e7
  have k0 := su_bd w0
  have k1 := su_bd w1
  have k2 := su_bd w2
  have k3 := su_bd w3
  have k4 := su_bd w4
  have k5 := su_bd w5
  have k6 := su_bd w6
  have m1 : IntKind.u16.min = 0 := by decide
  have m2 : IntKind.u16.max = 65535 := by decide
  have m3 : IntKind.u32.min = 0 := by decide
  have m4 : IntKind.u32.max = 4294967295 := by decide
  have m5 : IntKind.i64.min = -9223372036854775808 := by decide
  have m6 : IntKind.i64.max = 9223372036854775807 := by decide
  refine ⟨⟨n0, n1, n2, n3, n4, n5, n6⟩, n7, ?_, by constructor <;> simp only [i64B] <;> omega, w7⟩
  unfold sgv
  congr 1
  apply Array.ext'
  exact hx
theorem eq_sg (w : World) (s : Sg) (b : ByteArray) : (binOp .eql 40 (sgv s (.string b)) (sgv s (.string b))).run Try.prog w = .ok (.bool true) w := by
  have h1 : Try.prog.stoodInHeld 40 = false := by kernel_rfl
  unfold sgv
  simp [go_sem, h1]
theorem ne_sg (w : World) (s : Sg) (b : ByteArray) : (binOp .neq 40 (sgv s (.string b)) (sgv s (.string b))).run Try.prog w = .ok (.bool false) w := by
  have h1 : Try.prog.stoodInHeld 40 = false := by kernel_rfl
  unfold sgv
  simp [go_sem, h1]
def sg0 : Sg := ⟨80, 0, 0, 0, 18, 0, 200⟩
def sg1 : Sg := ⟨0, 0, 0, 0, 2, 0, 0⟩
end Go.Proofs.Ytpdhoojjcgohpaa
