
/- What no connection answers to a segment; the document's segment as the program's. -/
import Derived.Test.YtckfoekpibgdfaaTcbX
namespace Go.Proofs.Ytckfoekpibgdfaa
set_option maxRecDepth 4000
namespace Tc
open Go.RowKit
set_option linter.unusedVariables false
set_option linter.unusedSimpArgs false

theorem come_nil' (pf pt sq ak fl wi ms : Int) (SA : Option Addr) (n sc : Nat) (w : World) : Calls Try.prog 9 #[.pointer none, .agg #[.int .u16 pf, .int .u16 pt, .int .u32 sq, .int .u32 ak, .int .i64 fl, .int .u16 wi, .int .i64 ms, .slice SA n sc]] w fun e w' => e = .returned (.slice none 0 0) ∧ Only (fun _ => False) w w' := by
  go_enter Try.func9, Try.ntmps9
  go_wp2_with (fail)
  refine wp_scope_inline ?_
  go_wp2_with (fail)
  first | simp only [Exit.then] | simp only [Exit.inBlock] | skip
  try simp only [gotos]
  go_ret
  exact ⟨rfl, (Only.refl _ w).alloc _⟩
theorem put8 (W : World) (rb t : Nat) (z : Array Value) (h : Blk W rb t z) (hz : z.size = 8) (x0 x1 x2 x3 x4 x5 x6 x7 : Value) :
    ∃ V, V = (((((((W.setCell ⟨rb, 0, none⟩ x0).setCell ⟨rb, 1, none⟩ x1).setCell ⟨rb, 2, none⟩ x2).setCell ⟨rb, 3, none⟩ x3).setCell ⟨rb, 4, none⟩ x4).setCell ⟨rb, 5, none⟩ x5).setCell ⟨rb, 6, none⟩ x6).setCell ⟨rb, 7, none⟩ x7 ∧ Blk V rb t #[x0, x1, x2, x3, x4, x5, x6, x7] ∧ Only (fun k => k = rb) W V := by
  refine ⟨_, rfl, ((((((((h.set_ 0 x0).set_ 1 x1).set_ 2 x2).set_ 3 x3).set_ 4 x4).set_ 5 x5).set_ 6 x6).set_ 7 x7).to ?_, ((((((((only_set W _ 0 _).then (only_set _ _ 1 _)).then (only_set _ _ 2 _)).then (only_set _ _ 3 _)).then (only_set _ _ 4 _)).then (only_set _ _ 5 _)).then (only_set _ _ 6 _)).then (only_set _ _ 7 _))⟩
  match z, hz with
  | ⟨[a, b, c, d, e, f, g, h]⟩, _ => simp
/-- the document's segment as the program's -/
theorem of_any (a : Ac) (w : World) (hz : a.dat.size ≤ maxLen) : Calls Try.prog 17 #[.agg #[.int .u16 a.pf, .int .u16 a.pt, .int .u32 a.sq, .int .u32 a.ak, .int .i64 a.fl, .int .u16 a.wi, .int .i64 a.ms, .string a.dat]] w
    fun e w' => (∃ B c n, e = .returned (.agg #[.int .u16 a.pf, .int .u16 a.pt, .int .u32 a.sq, .int .u32 a.ak, .int .i64 a.fl, .int .u16 a.wi, .int .i64 a.ms, .slice B n c])) ∧ Only (fun _ => False) w w' := by
  obtain ⟨k, n, fr, to_, sq, ak, fl, wi, ms, b⟩ := a
  simp only at hz ⊢
  have kc := fun w s => Lib.run_convert_string_bytes (P := Try.prog) w 9 30 5 s Try.underlying9 Try.underlying30 Try.underlying5
  obtain ⟨rb, hrb⟩ : ∃ x, w.heap.size = x := ⟨_, rfl⟩
  obtain ⟨Wa, hWa, sa, qa, oa⟩ := made w _ hrb 45 #[.int .u16 fr, .int .u16 to_, .int .u32 sq, .int .u32 ak, .int .i64 fl, .int .u16 wi, .int .i64 ms, .string b]
  obtain ⟨W0, hW0, s0, q0, o0⟩ := made Wa _ sa 32 #[.int .u16 0, .int .u16 0, .int .u32 0, .int .u32 0, .int .i64 0, .int .u16 0, .int .i64 0, .slice none 0 0]
  have K0 := addB (addB (start w) oa qa) o0 q0
  have cv := Mid.of_conv (base := rb + 2) W0 b hz (by omega)
  have K1 := addM K0 (only_bytesWorld W0 5 b) cv
  obtain ⟨r0, r1, r2, r3, r4, r5, r6, r7⟩ := Blk.d8 K0.out.2.1
  obtain ⟨z0, z1, z2, z3, z4, z5, z6, z7⟩ := Blk.d8 K1.out.2.1
  have f0 := Blk.frozen K1.out.2.1 0
  have f1 := Blk.frozen K1.out.2.1 1
  have f2 := Blk.frozen K1.out.2.1 2
  have f3 := Blk.frozen K1.out.2.1 3
  have f4 := Blk.frozen K1.out.2.1 4
  have f5 := Blk.frozen K1.out.2.1 5
  have f6 := Blk.frozen K1.out.2.1 6
  have f7 := Blk.frozen K1.out.2.1 7
  have HWA := Lib.hid hWa
  have HW0 := Lib.hid hW0
  have HRB := Lib.hid hrb
  have S0 := Lib.hid s0
  clear qa oa q0 o0 cv hWa hW0 sa s0
  go_enter Try.func17, Try.ntmps17
  go_upto_region 1 with (fail)
  rw [← HWA.out]
  rw [← HW0.out]
  go_wp2_with (fail)
  generalize Lib.bytesWorld W0 5 b = V at *
  generalize grownCap W0 b.size 0 5 = cc at *
  rw [S0.out] at *
  obtain ⟨T, hT, qt, ot⟩ := put8 V (rb + 1) 32 _ K1.out.2.1 rfl (.int .u16 fr) (.int .u16 to_) (.int .u32 sq) (.int .u32 ak) (.int .i64 fl) (.int .u16 wi) (.int .i64 ms) (.slice (some ⟨rb + 1 + 1, 0, none⟩) b.size cc)
  rw [← hT]
  have hr := HRB.out
  have K2 := stayB (Lib.hid ⟨K1.out.1, K1.out.2.2⟩ : Hid (Holds (.mid _ _ _ _ _ _ _ :: _) V)) ot (by simp only [FarB, Fact.farB, and_true, bk_some]; omega)
  obtain ⟨t0, t1, t2, t3, t4, t5, t6, t7⟩ := Blk.d8 qt
  have hm : Mid T (rb + 2) 5 1 (some ⟨rb + 1 + 1, 0, none⟩) b.size cc ((codes b).map (Value.int .u8)) := K2.out.1
  exact bodyPost_ret (v := .agg #[.int .u16 fr, .int .u16 to_, .int .u32 sq, .int .u32 ak, .int .i64 fl, .int .u16 wi, .int .i64 ms, .slice (some ⟨rb + 1 + 1, 0, none⟩) b.size cc]) (by simp [results, Try.results17, go_sem, t0, t1, t2, t3, t4, t5, t6, t7]) rfl
    ⟨⟨_, _, _, rfl⟩, K2.out.2.2.1⟩
end Tc
end Go.Proofs.Ytckfoekpibgdfaa
