
/- ARP in one form for all inputs; a parameter that is a message, a host. -/
import Derived.Test.YthlofchgoidnmaaArpR
namespace Go.Proofs.Ythlofchgoidnmaa
set_option maxRecDepth 4000
open Go.RowKit Go.Sort
set_option linter.unusedVariables false

def MsgU (w : World) (a : Ar) (e : Ending) (w' : World) : Prop :=
  ∃ A n c cs, e = .returned (.tuple #[.slice A n c, .int .i64 (msgE a)]) ∧ Byt w' A n cs ∧ n ≤ c ∧ c ≤ maxLen ∧ strOfNums cs = msgS a ∧ (msgOk a → n = 28 ∧ cs = msgB a) ∧ n ≤ 28 ∧ Only (fun _ => False) w w'
theorem abytes_u (a : Ar) (w : World) (h : ArB a) : Calls Try.prog 48 #[arv a] w (MsgU w a) := by
  refine (abytes_any a w h).mono ?_
  rintro e w1 (⟨hk, A', c', rfl, hob⟩ | ⟨hk, rfl, ho⟩)
  · exact ⟨A', 28, c', _, by unfold msgE; rw [if_pos hk], hob.byt, hob.mid.le, hob.mid.cm, by unfold msgS; rw [if_pos hk], fun _ => ⟨rfl, rfl⟩, Nat.le_refl _, hob.only⟩
  · exact ⟨none, 0, 0, [], by unfold msgE; rw [if_neg hk], Byt.zero _ _, Nat.le_refl _, Nat.zero_le _, by unfold msgS; rw [if_neg hk]; rfl, fun h => absurd h hk, Nat.zero_le _, ho⟩
theorem seen_ar {w : World} {v : Value} (s : Seen w 131 v) : ∃ a, v = arv a ∧ ArB a := by
  obtain ⟨cs, rfl, hr⟩ := s.struct Try.underlying131
  obtain ⟨hl, hf⟩ := hr.struct Try.underlying131
  have hc : Try.prog.cellsOf 131 = 5 := by kernel_rfl
  rw [hc] at hl
  obtain ⟨x0, x1, x2, x3, x4, hx⟩ : ∃ x0 x1 x2 x3 x4, cs.toList = [x0, x1, x2, x3, x4] := by
    match h : cs.toList, hl with
    | [a, b, c, d, e], _ => exact ⟨a, b, c, d, e, rfl⟩
  rw [hx] at hf
  have f0 : Reads w 3 [x0] := hf 0 _ rfl
  have f1 : Reads w 22 [x1] := hf 1 _ rfl
  have f2 : Reads w 23 [x2] := hf 2 _ rfl
  have f3 : Reads w 22 [x3] := hf 3 _ rfl
  have f4 : Reads w 23 [x4] := hf 4 _ rfl
  obtain ⟨n0, e0, w0⟩ := Reads.i64 Try.underlying3 f0
  obtain ⟨n1, e1, w1⟩ := f1.int (k := .u64) Try.underlying22
  obtain ⟨n2, e2, w2⟩ := f2.int (k := .u32) Try.underlying23
  obtain ⟨n3, e3, w3⟩ := f3.int (k := .u64) Try.underlying22
  obtain ⟨n4, e4, w4⟩ := f4.int (k := .u32) Try.underlying23
  simp only [List.cons.injEq, and_true] at e0 e1 e2 e3 e4
  subst e0 e1 e2 e3 e4
  refine ⟨⟨n0, n1, n2, n3, n4⟩, ?_, ⟨w0, (u64_bd w1).1, (u64_bd w1).2, (u32_bd w2).1, (u32_bd w2).2, (u64_bd w3).1, (u64_bd w3).2, (u32_bd w4).1, (u32_bd w4).2⟩⟩
  unfold arv
  congr 1
  apply Array.ext'
  exact hx
theorem eq_ar (w : World) (a b c d e : Int) : (binOp .eql 131 (.agg #[.int .i64 a, .int .u64 b, .int .u32 c, .int .u64 d, .int .u32 e]) (.agg #[.int .i64 a, .int .u64 b, .int .u32 c, .int .u64 d, .int .u32 e])).run Try.prog w = .ok (.bool true) w := by
  have h1 : Try.prog.stoodInHeld 131 = false := by kernel_rfl
  simp [go_sem, h1]
end Go.Proofs.Ythlofchgoidnmaa
