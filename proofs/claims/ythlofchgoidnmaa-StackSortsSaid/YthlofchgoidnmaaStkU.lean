
/- The stack: parameters, the example, Refuse. -/
import Derived.Test.YthlofchgoidnmaaStkS
namespace Go.Proofs.Ythlofchgoidnmaa
set_option maxRecDepth 4000
open Go.RowKit Go.Sort
set_option linter.unusedVariables false

theorem i64_bd {n : Int} (hw : (Lit.int .i64 n).wf = true) : i64B n := by
  have h := su_bd hw
  have h1 : IntKind.i64.min = -9223372036854775808 := by decide
  have h2 : IntKind.i64.max = 9223372036854775807 := by decide
  rw [h1, h2] at h
  exact h
theorem seen_peer {w : World} {v : Value} (s : Seen w 37 v) : ∃ m i p, v = .agg #[.int .u64 m, .int .u32 i, .int .u16 p] ∧ (0 ≤ m ∧ m < 18446744073709551616) ∧ (0 ≤ i ∧ i < 4294967296) ∧ (0 ≤ p ∧ p < 65536) := by
  obtain ⟨cs, rfl, hr⟩ := s.struct Try.underlying37
  obtain ⟨hl, hf⟩ := hr.struct Try.underlying37
  have hc : Try.prog.cellsOf 37 = 3 := by kernel_rfl
  rw [hc] at hl
  obtain ⟨x0, x1, x2, hx⟩ : ∃ x0 x1 x2, cs.toList = [x0, x1, x2] := by
    match h : cs.toList, hl with
    | [a0, a1, a2], _ => exact ⟨a0, a1, a2, rfl⟩
  rw [hx] at hf
  have f0 : Reads w 22 [x0] := hf 0 _ rfl
  have f1 : Reads w 23 [x1] := hf 1 _ rfl
  have f2 : Reads w 26 [x2] := hf 2 _ rfl
  obtain ⟨n0, e0, w0⟩ := f0.int (k := .u64) Try.underlying22
  obtain ⟨n1, e1, w1⟩ := f1.int (k := .u32) Try.underlying23
  obtain ⟨n2, e2, w2⟩ := f2.int (k := .u16) Try.underlying26
  simp only [List.cons.injEq, and_true] at e0 e1 e2
  subst e0 e1 e2
  refine ⟨n0, n1, n2, ?_, u64_bd w0, u32_bd w1, u16_bd w2⟩
  congr 1
  apply Array.ext'
  exact hx
theorem seen_out {w : World} {v : Value} (s : Seen w 46 v) : ∃ fl sq ak wi fr ln ms, v = .agg #[.int .i64 fl, .int .u32 sq, .int .u32 ak, .int .i64 wi, .int .i64 fr, .int .i64 ln, .int .i64 ms] ∧ i64B fl ∧ (0 ≤ sq ∧ sq < 4294967296) ∧ (0 ≤ ak ∧ ak < 4294967296) ∧ i64B wi ∧ i64B fr ∧ i64B ln ∧ i64B ms := by
  obtain ⟨cs, rfl, hr⟩ := s.struct Try.underlying46
  obtain ⟨hl, hf⟩ := hr.struct Try.underlying46
  have hc : Try.prog.cellsOf 46 = 7 := by kernel_rfl
  rw [hc] at hl
  obtain ⟨x0, x1, x2, x3, x4, x5, x6, hx⟩ : ∃ x0 x1 x2 x3 x4 x5 x6, cs.toList = [x0, x1, x2, x3, x4, x5, x6] := by
    match h : cs.toList, hl with
    | [a0, a1, a2, a3, a4, a5, a6], _ => exact ⟨a0, a1, a2, a3, a4, a5, a6, rfl⟩
  rw [hx] at hf
  have f0 : Reads w 3 [x0] := hf 0 _ rfl
  have f1 : Reads w 23 [x1] := hf 1 _ rfl
  have f2 : Reads w 23 [x2] := hf 2 _ rfl
  have f3 : Reads w 3 [x3] := hf 3 _ rfl
  have f4 : Reads w 3 [x4] := hf 4 _ rfl
  have f5 : Reads w 3 [x5] := hf 5 _ rfl
  have f6 : Reads w 3 [x6] := hf 6 _ rfl
  obtain ⟨n0, e0, w0⟩ := f0.int (k := .i64) Try.underlying3
  obtain ⟨n1, e1, w1⟩ := f1.int (k := .u32) Try.underlying23
  obtain ⟨n2, e2, w2⟩ := f2.int (k := .u32) Try.underlying23
  obtain ⟨n3, e3, w3⟩ := f3.int (k := .i64) Try.underlying3
  obtain ⟨n4, e4, w4⟩ := f4.int (k := .i64) Try.underlying3
  obtain ⟨n5, e5, w5⟩ := f5.int (k := .i64) Try.underlying3
  obtain ⟨n6, e6, w6⟩ := f6.int (k := .i64) Try.underlying3
  simp only [List.cons.injEq, and_true] at e0 e1 e2 e3 e4 e5 e6
  subst e0 e1 e2 e3 e4 e5 e6
  refine ⟨n0, n1, n2, n3, n4, n5, n6, ?_, i64_bd w0, u32_bd w1, u32_bd w2, i64_bd w3, i64_bd w4, i64_bd w5, i64_bd w6⟩
  congr 1
  apply Array.ext'
  exact hx
/-- what is wrapped, in one form -/
def WrU (w : World) (x : Wp) (E : Int) (P Q : Int) (ln : Int) (e : Ending) (w' : World) : Prop :=
  ∃ A n c cs, e = .returned (.tuple #[.slice A n c, .int .i64 E]) ∧ Byt w' A n cs ∧ ((E = 0 ∧ cs = wL x ln P Q) ∨ (E ≠ 0 ∧ n = 0)) ∧ Only (fun _ => False) w w'
theorem wrap_u (x : Wp) (ln P Q : Int) (w : World) (h : WpB x) (hln : i64B ln) (P0 : 0 ≤ P) (P1 : P ≤ 1073741824) (Q0 : 0 ≤ Q) (Q1 : Q ≤ 1073741824) :
    Calls Try.prog 12 #[hostv x, .int .u16 x.port, peerv x, outv x ln, .complex .f64 (fb P) (fb Q), .int .u16 x.id] w (WrU w x (wE x ln) P Q ln) := by
  refine (wrap_any x ln P Q w h hln P0 P1 Q0 Q1).mono ?_
  rintro e w' (⟨h0, A, c, rfl, hob⟩ | ⟨h0, rfl, ho⟩)
  · exact ⟨A, _, c, _, by rw [h0], hob.byt, .inl ⟨h0, rfl⟩, hob.only⟩
  · exact ⟨none, 0, 0, [], rfl, Byt.zero _ _, .inr ⟨h0, rfl⟩, ho⟩
def al0 : Wp := ⟨1, 2, 80, 3, 4, 5, 16, 0, 0, 0, 0, 0, 7⟩
set_option maxRecDepth 100000 in
set_option maxHeartbeats 1000000 in
theorem stk_alive (w : World) : Calls Try.prog 8 #[] w fun e w' => e = .returned (.bool true) ∧ Only (fun _ => False) w w' := by
  have hB : WpB al0 := ⟨by decide, by decide, by decide, by decide, by decide, by decide, by decide, by decide, by decide, by decide, by decide, by decide, by unfold i64B al0; decide, by decide, by decide, by decide, by decide, by unfold i64B al0; decide, by decide, by decide⟩
  have WR := Lib.hid (fun w => wrap_any al0 0 0 0 w hB (by unfold i64B; decide) (by decide) (by decide) (by decide) (by decide))
  have SO := Lib.hid (fun w => sort_any 1 2 80 none 0 0 [] w ⟨by decide, by decide, by decide, by decide⟩ (by decide) (by decide) (Byt.zero _ _) (by decide))
  have e1 : wE al0 0 = 0 := by decide
  have e2 : wN al0 = 54 := by decide
  have e3 : sortF 1 2 80 [] = soZ := by unfold sortF soP; rw [pF_small (by decide)]; rfl
  have e4 : gb (wL al0 0 0 0) 5 = 3 := by decide
  unfold WPost at WR
  rw [e1, e2] at WR
  unfold SoPost at SO
  rw [e3] at SO
  rw [fb_zero] at WR
  have G5 := Lib.hid e4
  clear e1 e2 e3 e4 hB
  generalize wL al0 0 0 0 = L at *
  unfold hostv peerv outv al0 at WR
  unfold sov soZ at SO
  simp only at WR SO
  obtain ⟨rb, hrb⟩ : ∃ r, w.heap.size = r := ⟨_, rfl⟩
  obtain ⟨Wa, hWa, sa, qa, oa⟩ := made w _ hrb 36 #[.int .u64 1, .int .u32 2]
  have K0 := addB (start w) oa qa
  have HWA := Lib.hid hWa
  have HRB := Lib.hid hrb
  obtain ⟨h0, h1⟩ := Blk.c2 K0.out.1
  clear hWa hrb sa qa oa
  go_enter Try.func8, Try.ntmps8
  go_upto_region 2 with (fail)
  rw [← HWA.out]
  try rw [HRB.out]
  go_wp2_with (fail)
  refine (WR.out _).mono ?_
  rintro e w1 (⟨-, A, c, rfl, hob⟩ | ⟨h, -⟩)
  case inr => exact absurd rfl h
  have K1 := addY K0 hob.only hob.byt
  obtain ⟨b, off, rfl, hcc⟩ := hob.byt.at_ (by decide)
  clear hob h0 h1 K0 WR hcc
  obtain ⟨h0, h1⟩ := Blk.c2 K1.out.2.1
  go_wp2_with (fail)
  refine (SO.out _).mono ?_
  rintro e w2 ⟨A2, c2, B2, d2, rfl, -, -, ho⟩
  have K2 := stay K1 ho
  clear ho K1 h0 h1 SO
  have kf : ∀ w, (Instr.field 34 (.agg #[.int .i64 0, .int .u64 0, .int .u32 0, .int .u16 0, .int .u16 0, .int .u16 0, .int .u32 0, .int .u32 0, .int .i64 0, .int .u16 0, .int .i64 0, .slice A2 0 c2, .slice B2 0 d2]) 0).run Try.prog w = .ok (.int .i64 0) w := fun w => by
    simp [Instr.field, run_underlying Try.underlying34, asAgg, go_sem]
  obtain ⟨b', off', he, hcc⟩ := K2.out.1.at_ (by decide)
  simp only [Option.some.injEq, Addr.mk.injEq, and_true] at he
  obtain ⟨rfl, rfl⟩ := he
  have c5 := hcc 5 (by decide)
  rw [G5.out] at c5
  clear hcc
  go_wp2_with (fail)
  try go_ret
  exact ⟨rfl, K2.out.2.2.1⟩
end Go.Proofs.Ythlofchgoidnmaa
