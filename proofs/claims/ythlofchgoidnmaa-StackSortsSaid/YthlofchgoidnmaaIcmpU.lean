
/- Echoes: the statements' own conversions, the chapter's example, a parameter that is an echo. -/
import Derived.Test.YthlofchgoidnmaaIcmpA
import Derived.Test.YthlofchgoidnmaaIcmpS
namespace Go.Proofs.Ythlofchgoidnmaa
set_option maxRecDepth 4000
open Go.RowKit Go.Sort
set_option linter.unusedVariables false

def IOfPost (w : World) (ty id sq : Int) (s : ByteArray) (e : Ending) (w' : World) : Prop :=
  ∃ A c, e = .returned (.agg #[.int .i64 ty, .int .u16 id, .int .u16 sq, .slice A s.size c]) ∧ Byt w' A s.size (codes s) ∧ s.size ≤ c ∧ c ≤ maxLen ∧ Only (fun _ => False) w w'
theorem seen_echo {w : World} {v : Value} (s : Seen w 95 v) : ∃ ty id sq s, v = .agg #[.int .i64 ty, .int .u16 id, .int .u16 sq, .string s] ∧ IcB ty id sq ∧ s.size ≤ maxLen := by
  obtain ⟨cs, rfl, hr⟩ := s.struct Try.underlying95
  obtain ⟨hl, hf⟩ := hr.struct Try.underlying95
  have hc : Try.prog.cellsOf 95 = 4 := by kernel_rfl
  rw [hc] at hl
  obtain ⟨x0, x1, x2, x3, hx⟩ : ∃ x0 x1 x2 x3, cs.toList = [x0, x1, x2, x3] := by
    match h : cs.toList, hl with
    | [a, b, c, d], _ => exact ⟨a, b, c, d, rfl⟩
  rw [hx] at hf
  have f0 : Reads w 3 [x0] := hf 0 _ rfl
  have f1 : Reads w 26 [x1] := hf 1 _ rfl
  have f2 : Reads w 26 [x2] := hf 2 _ rfl
  have f3 : Reads w 9 [x3] := hf 3 _ rfl
  obtain ⟨n0, e0, w0⟩ := Reads.i64 Try.underlying3 f0
  obtain ⟨n1, e1, w1⟩ := f1.int (k := .u16) Try.underlying26
  obtain ⟨n2, e2, w2⟩ := f2.int (k := .u16) Try.underlying26
  obtain ⟨n3, e3, w3⟩ := f3.str Try.underlying9
  simp only [List.cons.injEq, and_true] at e0 e1 e2 e3
  subst e0 e1 e2 e3
  have k1 : IntKind.u16.min ≤ n1 ∧ n1 ≤ IntKind.u16.max := by simpa [Lit.wf] using w1
  have k2 : IntKind.u16.min ≤ n2 ∧ n2 ≤ IntKind.u16.max := by simpa [Lit.wf] using w2
  have m1 : IntKind.u16.min = 0 := by decide
  have m2 : IntKind.u16.max = 65535 := by decide
  refine ⟨n0, n1, n2, n3, ?_, ⟨w0, by omega, by omega, by omega, by omega⟩, w3⟩
  congr 1
  apply Array.ext'
  exact hx
theorem eq_echo (w : World) (a b c : Int) (s : ByteArray) : (binOp .eql 95 (.agg #[.int .i64 a, .int .u16 b, .int .u16 c, .string s]) (.agg #[.int .i64 a, .int .u16 b, .int .u16 c, .string s])).run Try.prog w = .ok (.bool true) w := by
  have h1 : Try.prog.stoodInHeld 95 = false := by kernel_rfl
  simp [go_sem, h1]
theorem ne_echo (w : World) (a b c : Int) (s : ByteArray) : (binOp .neq 95 (.agg #[.int .i64 a, .int .u16 b, .int .u16 c, .string s]) (.agg #[.int .i64 a, .int .u16 b, .int .u16 c, .string s])).run Try.prog w = .ok (.bool false) w := by
  have h1 : Try.prog.stoodInHeld 95 = false := by kernel_rfl
  simp [go_sem, h1]
end Go.Proofs.Ythlofchgoidnmaa
