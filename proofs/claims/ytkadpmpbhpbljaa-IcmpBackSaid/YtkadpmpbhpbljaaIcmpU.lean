
/- Echoes: the statements' own conversions, the chapter's example, a parameter that is an echo. -/
import Derived.Test.YtkadpmpbhpbljaaIcmpA
import Derived.Test.YtkadpmpbhpbljaaIcmpS
namespace Go.Proofs.Ytkadpmpbhpbljaa
open Go.RowKit Go.Sort
set_option linter.unusedVariables false

def IOfPost (w : World) (ty id sq : Int) (s : ByteArray) (e : Ending) (w' : World) : Prop :=
  ∃ A c, e = .returned (.agg #[.int .i64 ty, .int .u16 id, .int .u16 sq, .slice A s.size c]) ∧ Byt w' A s.size (codes s) ∧ s.size ≤ c ∧ c ≤ maxLen ∧ Only (fun _ => False) w w'
set_option maxHeartbeats 1000000 in
theorem iof_any (ty id sq : Int) (s : ByteArray) (w : World) (hs : s.size ≤ 100000) :
    Calls Try.prog 8 #[.agg #[.int .i64 ty, .int .u16 id, .int .u16 sq, .string s]] w (IOfPost w ty id sq s) := by
  have kc := fun w s => Lib.run_convert_string_bytes (P := Try.prog) w 9 26 5 s Try.underlying9 Try.underlying26 Try.underlying5
  obtain ⟨rb, hrb⟩ : ∃ x, w.heap.size = x := ⟨_, rfl⟩
  obtain ⟨Wa, hWa, sa, qa, oa⟩ := made w _ hrb 24 #[.int .i64 ty, .int .u16 id, .int .u16 sq, .string s]
  obtain ⟨W0, hW0, s0, q0, o0⟩ := made Wa _ sa 31 #[.int .i64 0, .int .u16 0, .int .u16 0, .slice none 0 0]
  have K0 := addB (addB (start w) oa qa) o0 q0
  have cv := Mid.of_conv (base := rb + 2) W0 s (by unfold maxLen; omega) (by omega)
  have K1 := addM K0 (only_bytesWorld W0 5 s) cv
  obtain ⟨r0, r1, r2, r3⟩ := Blk.c4 K0.out.2.1
  obtain ⟨z0, z1, z2, z3⟩ := Blk.c4 K1.out.2.1
  have f0 := Blk.frozen K1.out.2.1 0
  have f1 := Blk.frozen K1.out.2.1 1
  have f2 := Blk.frozen K1.out.2.1 2
  have f3 := Blk.frozen K1.out.2.1 3
  have HWA := Lib.hid hWa
  have HW0 := Lib.hid hW0
  have HRB := Lib.hid hrb
  have S0 := Lib.hid s0
  clear qa oa q0 o0 cv hWa hW0 sa s0
  go_enter Try.func8, Try.ntmps8
  go_upto_region 1 with (fail)
  rw [← HWA.out]
  rw [← HW0.out]
  go_wp2_with (fail)
  generalize Lib.bytesWorld W0 5 s = V at *
  generalize grownCap W0 s.size 0 5 = cc at *
  rw [S0.out] at *
  obtain ⟨T, hT, qt, ot⟩ := put4' V (rb + 1) 31 _ K1.out.2.1 rfl (.int .i64 ty) (.int .u16 id) (.int .u16 sq) (.slice (some ⟨rb + 1 + 1, 0, none⟩) s.size cc)
  rw [← hT]
  have hr := HRB.out
  have K2 := stayB (Lib.hid ⟨K1.out.1, K1.out.2.2⟩ : Hid (Holds (.mid _ _ _ _ _ _ _ :: _) V)) ot (by simp only [FarB, Fact.farB, and_true, bk_some]; omega)
  obtain ⟨t0, t1, t2, t3⟩ := Blk.c4 qt
  have hm : Mid T (rb + 2) 5 1 (some ⟨rb + 1 + 1, 0, none⟩) s.size cc (u8s (codes s)) := K2.out.1
  exact bodyPost_ret (v := .agg #[.int .i64 ty, .int .u16 id, .int .u16 sq, .slice (some ⟨rb + 1 + 1, 0, none⟩) s.size cc]) (by simp [results, Try.results8, go_sem, t0, t1, t2, t3]) rfl
    ⟨_, _, rfl, hm.sl.to_byt (codes_bd s), hm.le, hm.cm, K2.out.2.2.1⟩
set_option maxHeartbeats 1000000 in
theorem ito_any (ty id sq : Int) (A : Option Addr) (n c : Nat) (cs : List Int) (w : World) (hb : Byt w A n cs) :
    Calls Try.prog 12 #[.agg #[.int .i64 ty, .int .u16 id, .int .u16 sq, .slice A n c]] w fun e w' => e = .returned (.agg #[.int .i64 ty, .int .u16 id, .int .u16 sq, .string (strOfNums cs)]) ∧ Only (fun _ => False) w w' := by
  have h2 : Only (fun _ => False) w ((w.alloc (.cells #[.int .i64 ty, .int .u16 id, .int .u16 sq, .slice A n c] 31)).alloc (.cells #[.int .i64 0, .int .u16 0, .int .u16 0, .string ⟨#[]⟩] 24)) := ((Only.refl _ w).alloc _).alloc _
  have kb := conv_bs (c := c) (hb.only h2 (fun _ _ _ h => h)) 26 9 Try.underlying26 Try.underlying5 Try.underlying9
  clear h2 hb
  go_enter Try.func12, Try.ntmps12
  go_wp2_with (fail)
  exact bodyPost_ret (v := .agg #[.int .i64 ty, .int .u16 id, .int .u16 sq, .string (strOfNums cs)]) (by simp [results, Try.results12, go_sem]) rfl ⟨rfl, ((Only.refl _ w).alloc _).alloc _⟩
set_option maxRecDepth 100000 in
set_option maxHeartbeats 1000000 in
theorem alive_any (w : World) : Calls Try.prog 6 #[] w fun e w' => e = .returned (.bool true) ∧ Only (fun _ => False) w w' := by
  have hB : IcB 8 1 2 := ⟨⟨by decide, by decide⟩, by decide, by decide, by decide, by decide⟩
  have IB := Lib.hid (ibytes_any 8 1 2 none 0 0 [] w hB (Byt.zero _ _))
  have e1 : ibX 8 1 2 [] = [8, 0, 247, 252, 0, 1, 0, 2] := by decide
  have e2 : ibE 8 0 = 0 := by decide
  unfold IBPost at IB
  rw [e1, e2] at IB
  have es : strOfNums [8, 0, 247, 252, 0, 1, 0, 2] = { data := #[8, 0, 247, 252, 0, 1, 0, 2] } := by decide
  have IP := Lib.hid (fun w => iparse_any none 0 0 [] w (Byt.zero _ _) (by decide))
  have e3 : ipF [] = ⟨0, 0, 0, [], 50⟩ := rfl
  unfold IPPost at IP
  rw [e3] at IP
  have ES := Lib.hid es
  clear hB e1 e2 e3 es
  go_enter Try.func6, Try.ntmps6
  go_wp2_with (fail)
  refine IB.out.mono ?_
  rintro e w1 ⟨A1, c1, rfl, hb1, -, -, ho1⟩
  have K1 := addY (start w) ho1 hb1
  clear IB hb1 ho1
  go_wp2_with (fail)
  refine (IP.out _).mono ?_
  rintro e w2 ⟨B, cb, rfl, -, -, -, ho2⟩
  have K2 := stay K1 ho2
  clear IP ho2 K1
  go_upto_region 3 with (fail)
  generalize hW : World.alloc _ _ = W at *
  have K3 : Hid (Holds _ W) := hW ▸ stay K2 ((Only.refl _ w2).alloc _)
  have kb := conv_bs (w := W) (A := A1) (n := 8) (c := c1) (cs := [8, 0, 247, 252, 0, 1, 0, 2]) K3.out.1 26 9 Try.underlying26 Try.underlying5 Try.underlying9
  rw [ES.out] at kb
  clear hW K2 ES
  go_wp2_with (fail)
  go_ret
  exact ⟨rfl, K3.out.2.1⟩
theorem seen_echo {w : World} {v : Value} (s : Seen w 24 v) : ∃ ty id sq s, v = .agg #[.int .i64 ty, .int .u16 id, .int .u16 sq, .string s] ∧ IcB ty id sq ∧ s.size ≤ maxLen := by
  obtain ⟨cs, rfl, hr⟩ := s.struct Try.underlying24
  obtain ⟨hl, hf⟩ := hr.struct Try.underlying24
  have hc : Try.prog.cellsOf 24 = 4 := by kernel_rfl
  rw [hc] at hl
  obtain ⟨x0, x1, x2, x3, hx⟩ : ∃ x0 x1 x2 x3, cs.toList = [x0, x1, x2, x3] := by
    match h : cs.toList, hl with
    | [a, b, c, d], _ => exact ⟨a, b, c, d, rfl⟩
  rw [hx] at hf
  have f0 : Reads w 3 [x0] := hf 0 _ rfl
  have f1 : Reads w 22 [x1] := hf 1 _ rfl
  have f2 : Reads w 22 [x2] := hf 2 _ rfl
  have f3 : Reads w 9 [x3] := hf 3 _ rfl
  obtain ⟨n0, e0, w0⟩ := Reads.i64 Try.underlying3 f0
  obtain ⟨n1, e1, w1⟩ := f1.int (k := .u16) Try.underlying22
  obtain ⟨n2, e2, w2⟩ := f2.int (k := .u16) Try.underlying22
  obtain ⟨n3, e3, w3⟩ := f3.str Try.underlying9
  simp only [List.cons.injEq, and_true] at e0 e1 e2 e3
  subst e0 e1 e2 e3
  have k1 : IntKind.u16.min ≤ n1 ∧ n1 ≤ IntKind.u16.max := by simpa [Lit.wf] using w1
  have k2 : IntKind.u16.min ≤ n2 ∧ n2 ≤ IntKind.u16.max := by simpa [Lit.wf] using w2
  have m1 : IntKind.u16.min = 0 := by decide
  have m2 : IntKind.u16.max = 65535 := by decide
  refine ⟨n0, n1, n2, n3, ?_, ⟨w0, by omega, by omega, by omega, by omega⟩, w3⟩
  congr 1
  apply Array.ext'
  exact hx
theorem eq_echo (w : World) (a b c : Int) (s : ByteArray) : (binOp .eql 24 (.agg #[.int .i64 a, .int .u16 b, .int .u16 c, .string s]) (.agg #[.int .i64 a, .int .u16 b, .int .u16 c, .string s])).run Try.prog w = .ok (.bool true) w := by
  have h1 : Try.prog.stoodInHeld 24 = false := by kernel_rfl
  simp [go_sem, h1]
theorem ne_echo (w : World) (a b c : Int) (s : ByteArray) : (binOp .neq 24 (.agg #[.int .i64 a, .int .u16 b, .int .u16 c, .string s]) (.agg #[.int .i64 a, .int .u16 b, .int .u16 c, .string s])).run Try.prog w = .ok (.bool false) w := by
  have h1 : Try.prog.stoodInHeld 24 = false := by kernel_rfl
  simp [go_sem, h1]
end Go.Proofs.Ytkadpmpbhpbljaa
