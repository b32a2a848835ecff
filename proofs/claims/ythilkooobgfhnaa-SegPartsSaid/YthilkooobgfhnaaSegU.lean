
/- Segments: the statements' own conversions, the chapter's example, a parameter that is a segment. -/
import Derived.Test.YthilkooobgfhnaaSegQ
import Derived.Test.YthilkooobgfhnaaSegR
namespace Go.Proofs.Ythilkooobgfhnaa
open Go.RowKit Go.Sort
set_option linter.unusedVariables false

def SOfPost (w : World) (s : Sg) (b : ByteArray) (e : Ending) (w' : World) : Prop :=
  ∃ A c, e = .returned (sgv s (.slice A b.size c)) ∧ Byt w' A b.size (codes b) ∧ b.size ≤ c ∧ c ≤ maxLen ∧ Only (fun _ => False) w w'
set_option maxHeartbeats 1000000 in
theorem sof_any (s : Sg) (b : ByteArray) (w : World) (hs : b.size ≤ 100000) :
    Calls Try.prog 8 #[sgv s (.string b)] w (SOfPost w s b) := by
  obtain ⟨fr, to_, sq, ak, fl, wi, ms⟩ := s
  unfold SOfPost sgv
  simp only
  have kc := fun w s => Lib.run_convert_string_bytes (P := Try.prog) w 9 27 5 s Try.underlying9 Try.underlying27 Try.underlying5
  obtain ⟨rb, hrb⟩ : ∃ x, w.heap.size = x := ⟨_, rfl⟩
  obtain ⟨Wa, hWa, sa, qa, oa⟩ := made w _ hrb 25 #[.int .u16 fr, .int .u16 to_, .int .u32 sq, .int .u32 ak, .int .i64 fl, .int .u16 wi, .int .i64 ms, .string b]
  obtain ⟨W0, hW0, s0, q0, o0⟩ := made Wa _ sa 32 #[.int .u16 0, .int .u16 0, .int .u32 0, .int .u32 0, .int .i64 0, .int .u16 0, .int .i64 0, .slice none 0 0]
  have K0 := addB (addB (start w) oa qa) o0 q0
  have cv := Mid.of_conv (base := rb + 2) W0 b (by unfold maxLen; omega) (by omega)
  have K1 := addM K0 (only_bytesWorld W0 5 b) cv
  obtain ⟨r0, r1, r2, r3, r4, r5, r6, r7⟩ := Blk.c8 K0.out.2.1
  obtain ⟨z0, z1, z2, z3, z4, z5, z6, z7⟩ := Blk.c8 K1.out.2.1
  have f0 := Blk.frozen K1.out.2.1 0
  have f1 := Blk.frozen K1.out.2.1 1
  have f2 := Blk.frozen K1.out.2.1 2
  have f3 := Blk.frozen K1.out.2.1 3
  have f4 := Blk.frozen K1.out.2.1 4
  have f5 := Blk.frozen K1.out.2.1 5
  have f6 := Blk.frozen K1.out.2.1 6
  have f7 := Blk.frozen K1.out.2.1 7
  have HWA := Lib.hid hWa
  have HW0 := Lib.hid hW0
  have HRB := Lib.hid hrb
  have S0 := Lib.hid s0
  clear qa oa q0 o0 cv hWa hW0 sa s0
  go_enter Try.func8, Try.ntmps8
  go_upto_region 1 with (fail)
  rw [← HWA.out]
  rw [← HW0.out]
  go_wp2_with (fail)
  generalize Lib.bytesWorld W0 5 b = V at *
  generalize grownCap W0 b.size 0 5 = cc at *
  rw [S0.out] at *
  obtain ⟨T, hT, qt, ot⟩ := put8 V (rb + 1) 32 _ K1.out.2.1 rfl (.int .u16 fr) (.int .u16 to_) (.int .u32 sq) (.int .u32 ak) (.int .i64 fl) (.int .u16 wi) (.int .i64 ms) (.slice (some ⟨rb + 1 + 1, 0, none⟩) b.size cc)
  rw [← hT]
  have hr := HRB.out
  have K2 := stayB (Lib.hid ⟨K1.out.1, K1.out.2.2⟩ : Hid (Holds (.mid _ _ _ _ _ _ _ :: _) V)) ot (by simp only [FarB, Fact.farB, and_true, bk_some]; omega)
  obtain ⟨t0, t1, t2, t3, t4, t5, t6, t7⟩ := Blk.c8 qt
  have hm : Mid T (rb + 2) 5 1 (some ⟨rb + 1 + 1, 0, none⟩) b.size cc (u8s (codes b)) := K2.out.1
  exact bodyPost_ret (v := .agg #[.int .u16 fr, .int .u16 to_, .int .u32 sq, .int .u32 ak, .int .i64 fl, .int .u16 wi, .int .i64 ms, .slice (some ⟨rb + 1 + 1, 0, none⟩) b.size cc]) (by simp [results, Try.results8, go_sem, t0, t1, t2, t3, t4, t5, t6, t7]) rfl
    ⟨_, _, rfl, hm.sl.to_byt (codes_bd b), hm.le, hm.cm, K2.out.2.2.1⟩
set_option maxHeartbeats 1000000 in
theorem sto_any (s : Sg) (A : Option Addr) (n c : Nat) (cs : List Int) (w : World) (hb : Byt w A n cs) :
    Calls Try.prog 16 #[sgv s (.slice A n c)] w fun e w' => e = .returned (sgv s (.string (strOfNums cs))) ∧ Only (fun _ => False) w w' := by
  obtain ⟨fr, to_, sq, ak, fl, wi, ms⟩ := s
  unfold sgv
  simp only
  have h2 : Only (fun _ => False) w ((w.alloc (.cells #[.int .u16 fr, .int .u16 to_, .int .u32 sq, .int .u32 ak, .int .i64 fl, .int .u16 wi, .int .i64 ms, .slice A n c] 32)).alloc (.cells #[.int .u16 0, .int .u16 0, .int .u32 0, .int .u32 0, .int .i64 0, .int .u16 0, .int .i64 0, .string ⟨#[]⟩] 25)) := ((Only.refl _ w).alloc _).alloc _
  have kb := conv_bs (c := c) (hb.only h2 (fun _ _ _ h => h)) 27 9 Try.underlying27 Try.underlying5 Try.underlying9
  clear h2 hb
  go_enter Try.func16, Try.ntmps16
  go_wp2_with (fail)
  exact bodyPost_ret (v := .agg #[.int .u16 fr, .int .u16 to_, .int .u32 sq, .int .u32 ak, .int .i64 fl, .int .u16 wi, .int .i64 ms, .string (strOfNums cs)]) (by simp [results, Try.results16, go_sem]) rfl ⟨rfl, ((Only.refl _ w).alloc _).alloc _⟩
theorem u_bd {k : IntKind} {n : Int} (hw : (Lit.int k n).wf = true) : k.min ≤ n ∧ n ≤ k.max := by simpa [Lit.wf] using hw
theorem seen_sg {w : World} {v : Value} (s : Seen w 25 v) : ∃ (s : Sg) (b : ByteArray), v = sgv s (.string b) ∧ SgB s ∧ b.size ≤ maxLen := by
  obtain ⟨cs, rfl, hr⟩ := s.struct Try.underlying25
  obtain ⟨hl, hf⟩ := hr.struct Try.underlying25
  have hc : Try.prog.cellsOf 25 = 8 := by kernel_rfl
  rw [hc] at hl
  obtain ⟨x0, x1, x2, x3, x4, x5, x6, x7, hx⟩ : ∃ x0 x1 x2 x3 x4 x5 x6 x7, cs.toList = [x0, x1, x2, x3, x4, x5, x6, x7] := by
    match h : cs.toList, hl with
    | [a, b, c, d, e, f, g, k], _ => exact ⟨a, b, c, d, e, f, g, k, rfl⟩
  rw [hx] at hf
  have f0 : Reads w 22 [x0] := hf 0 _ rfl
  have f1 : Reads w 22 [x1] := hf 1 _ rfl
  have f2 : Reads w 23 [x2] := hf 2 _ rfl
  have f3 : Reads w 23 [x3] := hf 3 _ rfl
  have f4 : Reads w 3 [x4] := hf 4 _ rfl
  have f5 : Reads w 22 [x5] := hf 5 _ rfl
  have f6 : Reads w 3 [x6] := hf 6 _ rfl
  have f7 : Reads w 9 [x7] := hf 7 _ rfl
  obtain ⟨n0, e0, w0⟩ := f0.int (k := .u16) Try.underlying22
  obtain ⟨n1, e1, w1⟩ := f1.int (k := .u16) Try.underlying22
  obtain ⟨n2, e2, w2⟩ := f2.int (k := .u32) Try.underlying23
  obtain ⟨n3, e3, w3⟩ := f3.int (k := .u32) Try.underlying23
  obtain ⟨n4, e4, w4⟩ := f4.int (k := .i64) Try.underlying3
  obtain ⟨n5, e5, w5⟩ := f5.int (k := .u16) Try.underlying22
  obtain ⟨n6, e6, w6⟩ := f6.int (k := .i64) Try.underlying3
  obtain ⟨n7, e7, w7⟩ := f7.str Try.underlying9
  simp only [List.cons.injEq, and_true] at e0 e1 e2 e3 e4 e5 e6 e7
  subst e0 e1 e2 e3 e4 e5 e6 e7
  have k0 := u_bd w0
  have k1 := u_bd w1
  have k2 := u_bd w2
  have k3 := u_bd w3
  have k4 := u_bd w4
  have k5 := u_bd w5
  have k6 := u_bd w6
  have m1 : IntKind.u16.min = 0 := by decide
  have m2 : IntKind.u16.max = 65535 := by decide
  have m3 : IntKind.u32.min = 0 := by decide
  have m4 : IntKind.u32.max = 4294967295 := by decide
  have m5 : IntKind.i64.min = -9223372036854775808 := by decide
  have m6 : IntKind.i64.max = 9223372036854775807 := by decide
  refine ⟨⟨n0, n1, n2, n3, n4, n5, n6⟩, n7, ?_, by constructor <;> simp only [i64B] <;> omega, w7⟩
  unfold sgv
  congr 1
  apply Array.ext'
  exact hx
theorem eq_sg (w : World) (s : Sg) (b : ByteArray) : (binOp .eql 25 (sgv s (.string b)) (sgv s (.string b))).run Try.prog w = .ok (.bool true) w := by
  have h1 : Try.prog.stoodInHeld 25 = false := by kernel_rfl
  unfold sgv
  simp [go_sem, h1]
theorem ne_sg (w : World) (s : Sg) (b : ByteArray) : (binOp .neq 25 (sgv s (.string b)) (sgv s (.string b))).run Try.prog w = .ok (.bool false) w := by
  have h1 : Try.prog.stoodInHeld 25 = false := by kernel_rfl
  unfold sgv
  simp [go_sem, h1]
def sg0 : Sg := ⟨80, 0, 0, 0, 18, 0, 200⟩
def sg1 : Sg := ⟨0, 0, 0, 0, 2, 0, 0⟩
set_option maxRecDepth 100000 in
set_option maxHeartbeats 1000000 in
theorem alive_any (w : World) : Calls Try.prog 6 #[] w fun e w' => e = .returned (.bool true) ∧ Only (fun _ => False) w w' := by
  have hP : SgB sg0 := ⟨by decide, by decide, by decide, by decide, by decide, by decide, by decide, by decide, by unfold i64B sg0; decide, by decide, by decide, by unfold i64B sg0; decide⟩
  have IB := Lib.hid (fun w => sbytes_any sg0 none 0 0 [] 1 2 w hP (Byt.zero _ _) (by decide) (by decide) (by decide) (by decide) (by decide))
  have g12 : gb (sgL sg0 1 2 []) 12 = 96 := by decide
  have ok : sgOk sg0 ∧ 0 ≤ 900 := by decide
  have hz : hsz sg0 = 24 := by decide
  have IP := Lib.hid (fun w => sparse_any none 0 0 [] 1 2 w (Byt.zero _ _) (by decide) (Nat.le_refl _) (Nat.zero_le _) (by decide) (by decide) (by decide) (by decide))
  have RO := Lib.hid (fun w => sroom_any sg1 none 0 0 w (by decide))
  have e3 : spF 1 2 [] = spZ 50 := rfl
  have e4 : sgRoom sg1 ((0 : Nat) : Int) = 1 := by decide
  unfold SQPost at IP
  rw [e3] at IP
  rw [e4] at RO
  unfold SBPost at IB
  rw [hz] at IB
  simp only [spZ] at IP
  unfold sgv at IP IB RO
  unfold sg1 at RO
  have G12 := Lib.hid g12
  have OK := Lib.hid ok
  clear hP e3 e4 g12 ok hz
  generalize sgL sg0 1 2 [] = L at *
  generalize hokp : (sgOk sg0 ∧ 0 ≤ 900) = okp at *
  clear hokp
  unfold sg0 at IB
  simp only at IB RO IP
  go_enter Try.func6, Try.ntmps6
  go_wp2_with (fail)
  refine (IB.out _).mono ?_
  rintro e w1 (⟨-, A1, c1, rfl, hob⟩ | ⟨h, -⟩)
  case inr => exact absurd OK.out h
  have hb1 := hob.byt
  have K1 := addY (start w) hob.only hb1
  clear IB hob hb1
  go_wp2_with (fail)
  refine (IP.out _).mono ?_
  rintro e w2 ⟨B, cb, rfl, -, -, -, ho2⟩
  have K2 := stay K1 ho2
  clear IP ho2 K1
  go_upto_region 3 with (fail)
  generalize hW : World.alloc _ _ = W at *
  have K3 : Hid (Holds _ W) := hW ▸ stay K2 ((Only.refl _ w2).alloc _)
  clear hW K2
  go_wp2_with (fail)
  refine (RO.out _).mono ?_
  rintro e w3 ⟨rfl, ho3⟩
  have K4 := stay K3 ho3
  obtain ⟨b, off, rfl, hc⟩ := Byt.at_ K4.out.1 (by decide)
  have c12 := hc 12 (by decide)
  have e12 := G12.out
  rw [e12] at c12
  clear K3 ho3 G12 hc e12
  go_wp2_with (fail)
  go_ret
  exact ⟨rfl, K4.out.2.1⟩
end Go.Proofs.Ythilkooobgfhnaa
