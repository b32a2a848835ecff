
/- Segments: the statements' own conversions, the chapter's example, a parameter that is a segment. -/
import Derived.Test.YthlofchgoidnmaaSegQ
import Derived.Test.YthlofchgoidnmaaSegR
namespace Go.Proofs.Ythlofchgoidnmaa
set_option maxRecDepth 4000
open Go.RowKit Go.Sort
set_option linter.unusedVariables false

def SOfPost (w : World) (s : Sg) (b : ByteArray) (e : Ending) (w' : World) : Prop :=
  ∃ A c, e = .returned (sgv s (.slice A b.size c)) ∧ Byt w' A b.size (codes b) ∧ b.size ≤ c ∧ c ≤ maxLen ∧ Only (fun _ => False) w w'
set_option maxHeartbeats 1000000 in
theorem sof_any (s : Sg) (b : ByteArray) (w : World) (hs : b.size ≤ 100000) :
    Calls Try.prog 19 #[sgv s (.string b)] w (SOfPost w s b) := by
  obtain ⟨fr, to_, sq, ak, fl, wi, ms⟩ := s
  unfold SOfPost sgv
  simp only
  have kc := fun w s => Lib.run_convert_string_bytes (P := Try.prog) w 9 30 5 s Try.underlying9 Try.underlying30 Try.underlying5
  obtain ⟨rb, hrb⟩ : ∃ x, w.heap.size = x := ⟨_, rfl⟩
  obtain ⟨Wa, hWa, sa, qa, oa⟩ := made w _ hrb 39 #[.int .u16 fr, .int .u16 to_, .int .u32 sq, .int .u32 ak, .int .i64 fl, .int .u16 wi, .int .i64 ms, .string b]
  obtain ⟨W0, hW0, s0, q0, o0⟩ := made Wa _ sa 32 #[.int .u16 0, .int .u16 0, .int .u32 0, .int .u32 0, .int .i64 0, .int .u16 0, .int .i64 0, .slice none 0 0]
  have K0 := addB (addB (start w) oa qa) o0 q0
  have cv := Mid.of_conv (base := rb + 2) W0 b (by unfold maxLen; omega) (by omega)
  have K1 := addM K0 (only_bytesWorld W0 5 b) cv
  obtain ⟨r0, r1, r2, r3, r4, r5, r6, r7⟩ := Blk.c8 K0.out.2.1
  obtain ⟨z0, z1, z2, z3, z4, z5, z6, z7⟩ := Blk.c8 K1.out.2.1
  have f0 := Blk.frozen K1.out.2.1 0
  have f1 := Blk.frozen K1.out.2.1 1
  have f2 := Blk.frozen K1.out.2.1 2
  have f3 := Blk.frozen K1.out.2.1 3
  have f4 := Blk.frozen K1.out.2.1 4
  have f5 := Blk.frozen K1.out.2.1 5
  have f6 := Blk.frozen K1.out.2.1 6
  have f7 := Blk.frozen K1.out.2.1 7
  have HWA := Lib.hid hWa
  have HW0 := Lib.hid hW0
  have HRB := Lib.hid hrb
  have S0 := Lib.hid s0
  clear qa oa q0 o0 cv hWa hW0 sa s0
  go_enter Try.func19, Try.ntmps19
  go_upto_region 1 with (fail)
  rw [← HWA.out]
  rw [← HW0.out]
  go_wp2_with (fail)
  generalize Lib.bytesWorld W0 5 b = V at *
  generalize grownCap W0 b.size 0 5 = cc at *
  rw [S0.out] at *
  obtain ⟨T, hT, qt, ot⟩ := put8 V (rb + 1) 32 _ K1.out.2.1 rfl (.int .u16 fr) (.int .u16 to_) (.int .u32 sq) (.int .u32 ak) (.int .i64 fl) (.int .u16 wi) (.int .i64 ms) (.slice (some ⟨rb + 1 + 1, 0, none⟩) b.size cc)
  rw [← hT]
  have hr := HRB.out
  have K2 := stayB (Lib.hid ⟨K1.out.1, K1.out.2.2⟩ : Hid (Holds (.mid _ _ _ _ _ _ _ :: _) V)) ot (by simp only [FarB, Fact.farB, and_true, bk_some]; omega)
  obtain ⟨t0, t1, t2, t3, t4, t5, t6, t7⟩ := Blk.c8 qt
  have hm : Mid T (rb + 2) 5 1 (some ⟨rb + 1 + 1, 0, none⟩) b.size cc (u8s (codes b)) := K2.out.1
  exact bodyPost_ret (v := .agg #[.int .u16 fr, .int .u16 to_, .int .u32 sq, .int .u32 ak, .int .i64 fl, .int .u16 wi, .int .i64 ms, .slice (some ⟨rb + 1 + 1, 0, none⟩) b.size cc]) (by simp [results, Try.results19, go_sem, t0, t1, t2, t3, t4, t5, t6, t7]) rfl
    ⟨_, _, rfl, hm.sl.to_byt (codes_bd b), hm.le, hm.cm, K2.out.2.2.1⟩
set_option maxHeartbeats 1000000 in
theorem sto_any (s : Sg) (A : Option Addr) (n c : Nat) (cs : List Int) (w : World) (hb : Byt w A n cs) :
    Calls Try.prog 11 #[sgv s (.slice A n c)] w fun e w' => e = .returned (sgv s (.string (strOfNums cs))) ∧ Only (fun _ => False) w w' := by
  obtain ⟨fr, to_, sq, ak, fl, wi, ms⟩ := s
  unfold sgv
  simp only
  have h2 : Only (fun _ => False) w ((w.alloc (.cells #[.int .u16 fr, .int .u16 to_, .int .u32 sq, .int .u32 ak, .int .i64 fl, .int .u16 wi, .int .i64 ms, .slice A n c] 32)).alloc (.cells #[.int .u16 0, .int .u16 0, .int .u32 0, .int .u32 0, .int .i64 0, .int .u16 0, .int .i64 0, .string ⟨#[]⟩] 39)) := ((Only.refl _ w).alloc _).alloc _
  have kb := conv_bs (c := c) (hb.only h2 (fun _ _ _ h => h)) 30 9 Try.underlying30 Try.underlying5 Try.underlying9
  clear h2 hb
  go_enter Try.func11, Try.ntmps11
  go_wp2_with (fail)
  exact bodyPost_ret (v := .agg #[.int .u16 fr, .int .u16 to_, .int .u32 sq, .int .u32 ak, .int .i64 fl, .int .u16 wi, .int .i64 ms, .string (strOfNums cs)]) (by simp [results, Try.results11, go_sem]) rfl ⟨rfl, ((Only.refl _ w).alloc _).alloc _⟩
theorem su_bd {k : IntKind} {n : Int} (hw : (Lit.int k n).wf = true) : k.min ≤ n ∧ n ≤ k.max := by simpa [Lit.wf] using hw
theorem seen_sg {w : World} {v : Value} (s : Seen w 39 v) : ∃ (s : Sg) (b : ByteArray), v = sgv s (.string b) ∧ SgB s ∧ b.size ≤ maxLen := by
  obtain ⟨cs, rfl, hr⟩ := s.struct Try.underlying39
  obtain ⟨hl, hf⟩ := hr.struct Try.underlying39
  have hc : Try.prog.cellsOf 39 = 8 := by kernel_rfl
  rw [hc] at hl
  obtain ⟨x0, x1, x2, x3, x4, x5, x6, x7, hx⟩ : ∃ x0 x1 x2 x3 x4 x5 x6 x7, cs.toList = [x0, x1, x2, x3, x4, x5, x6, x7] := by
    match h : cs.toList, hl with
    | [a, b, c, d, e, f, g, k], _ => exact ⟨a, b, c, d, e, f, g, k, rfl⟩
  rw [hx] at hf
  have f0 : Reads w 26 [x0] := hf 0 _ rfl
  have f1 : Reads w 26 [x1] := hf 1 _ rfl
  have f2 : Reads w 23 [x2] := hf 2 _ rfl
  have f3 : Reads w 23 [x3] := hf 3 _ rfl
  have f4 : Reads w 3 [x4] := hf 4 _ rfl
  have f5 : Reads w 26 [x5] := hf 5 _ rfl
  have f6 : Reads w 3 [x6] := hf 6 _ rfl
  have f7 : Reads w 9 [x7] := hf 7 _ rfl
  obtain ⟨n0, e0, w0⟩ := f0.int (k := .u16) Try.underlying26
  obtain ⟨n1, e1, w1⟩ := f1.int (k := .u16) Try.underlying26
  obtain ⟨n2, e2, w2⟩ := f2.int (k := .u32) Try.underlying23
  obtain ⟨n3, e3, w3⟩ := f3.int (k := .u32) Try.underlying23
  obtain ⟨n4, e4, w4⟩ := f4.int (k := .i64) Try.underlying3
  obtain ⟨n5, e5, w5⟩ := f5.int (k := .u16) Try.underlying26
  obtain ⟨n6, e6, w6⟩ := f6.int (k := .i64) Try.underlying3
  obtain ⟨n7, e7, w7⟩ := f7.str Try.underlying9
  simp only [List.cons.injEq, and_true] at e0 e1 e2 e3 e4 e5 e6 e7
  subst e0 e1 e2 e3 e4 e5 e6 e7
  have k0 := su_bd w0
  have k1 := su_bd w1
  have k2 := su_bd w2
  have k3 := su_bd w3
  have k4 := su_bd w4
  have k5 := su_bd w5
  have k6 := su_bd w6
  have m1 : IntKind.u16.min = 0 := by decide
  have m2 : IntKind.u16.max = 65535 := by decide
  have m3 : IntKind.u32.min = 0 := by decide
  have m4 : IntKind.u32.max = 4294967295 := by decide
  have m5 : IntKind.i64.min = -9223372036854775808 := by decide
  have m6 : IntKind.i64.max = 9223372036854775807 := by decide
  refine ⟨⟨n0, n1, n2, n3, n4, n5, n6⟩, n7, ?_, by constructor <;> simp only [i64B] <;> omega, w7⟩
  unfold sgv
  congr 1
  apply Array.ext'
  exact hx
theorem eq_sg (w : World) (s : Sg) (b : ByteArray) : (binOp .eql 39 (sgv s (.string b)) (sgv s (.string b))).run Try.prog w = .ok (.bool true) w := by
  have h1 : Try.prog.stoodInHeld 39 = false := by kernel_rfl
  unfold sgv
  simp [go_sem, h1]
theorem ne_sg (w : World) (s : Sg) (b : ByteArray) : (binOp .neq 39 (sgv s (.string b)) (sgv s (.string b))).run Try.prog w = .ok (.bool false) w := by
  have h1 : Try.prog.stoodInHeld 39 = false := by kernel_rfl
  unfold sgv
  simp [go_sem, h1]
def sg0 : Sg := ⟨80, 0, 0, 0, 18, 0, 200⟩
def sg1 : Sg := ⟨0, 0, 0, 0, 2, 0, 0⟩
end Go.Proofs.Ythlofchgoidnmaa
