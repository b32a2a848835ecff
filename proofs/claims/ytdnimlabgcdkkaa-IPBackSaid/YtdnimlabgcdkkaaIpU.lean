
/- Packets of IP: the statements' own conversions, the chapter's example, with what sums begin, a parameter that is a packet. -/
import Derived.Test.YtdnimlabgcdkkaaIpT
import Derived.Test.YtdnimlabgcdkkaaIpR
namespace Go.Proofs.Ytdnimlabgcdkkaa
open Go.RowKit Go.Sort
set_option linter.unusedVariables false

def IUPost (w : World) (L : ByteArray) (E : Int) (e : Ending) (w' : World) : Prop :=
  ∃ A n c cs, e = .returned (.tuple #[.slice A n c, .int .i64 E]) ∧ Byt w' A n cs ∧ n ≤ c ∧ c ≤ maxLen ∧ strOfNums cs = L ∧ Only (fun _ => False) w w'
theorem head_u (id ttl pr src dst n : Int) (A : Option Addr) (m c : Nat) (w : World) (h : PkI id ttl pr src dst) :
    Calls Try.prog 9 #[pkv id ttl pr src dst (.slice A m c), .int .i64 n] w (IUPost w (rhS id ttl pr src dst n) (rhE n)) := by
  refine (head_any id ttl pr src dst n A m c w h).mono ?_
  rintro e w1 (⟨hk, A', c', rfl, hob⟩ | ⟨hk, rfl, ho⟩)
  · exact ⟨A', 20, c', _, by unfold rhE; rw [if_pos hk], hob.byt, hob.mid.le, hob.mid.cm, by unfold rhS; rw [if_pos hk], hob.only⟩
  · exact ⟨none, 0, 0, [], by unfold rhE; rw [if_neg hk], Byt.zero _ _, Nat.le_refl _, Nat.zero_le _, by unfold rhS; rw [if_neg hk]; rfl, ho⟩
theorem bytes_u (id ttl pr src dst : Int) (A : Option Addr) (c : Nat) (b : ByteArray) (w : World) (h : PkI id ttl pr src dst) (hb : Byt w A b.size (codes b)) (hn : b.size ≤ 100000) :
    Calls Try.prog 11 #[pkv id ttl pr src dst (.slice A b.size c)] w (IUPost w (rbS id ttl pr src dst b) (rhE b.size)) := by
  refine (bytes_any id ttl pr src dst A b.size c (codes b) w h hb hn).mono ?_
  rintro e w1 (⟨hk, A', c', rfl, hob⟩ | ⟨hk, rfl, ho⟩)
  · exact ⟨A', 20 + b.size, c', _, by unfold rhE; rw [if_pos hk], hob.byt, hob.mid.le, hob.mid.cm, by unfold rbS; rw [if_pos hk, ← strs_app, str_codes], hob.only⟩
  · exact ⟨none, 0, 0, [], by unfold rhE; rw [if_neg hk], Byt.zero _ _, Nat.le_refl _, Nat.zero_le _, by unfold rbS; rw [if_neg hk]; rfl, ho⟩
def QOfPost (w : World) (id ttl pr src dst : Int) (s : ByteArray) (e : Ending) (w' : World) : Prop :=
  ∃ A c, e = .returned (.agg #[.int .u16 id, .int .u8 ttl, .int .u8 pr, .int .u32 src, .int .u32 dst, .slice A s.size c]) ∧ Byt w' A s.size (codes s) ∧ s.size ≤ c ∧ c ≤ maxLen ∧ Only (fun _ => False) w w'
set_option maxHeartbeats 1000000 in
theorem qof_any (id ttl pr src dst : Int) (s : ByteArray) (w : World) (hs : s.size ≤ 100000) :
    Calls Try.prog 10 #[.agg #[.int .u16 id, .int .u8 ttl, .int .u8 pr, .int .u32 src, .int .u32 dst, .string s]] w (QOfPost w id ttl pr src dst s) := by
  have kc := fun w s => Lib.run_convert_string_bytes (P := Try.prog) w 9 27 5 s Try.underlying9 Try.underlying27 Try.underlying5
  obtain ⟨rb, hrb⟩ : ∃ x, w.heap.size = x := ⟨_, rfl⟩
  obtain ⟨Wa, hWa, sa, qa, oa⟩ := made w _ hrb 25 #[.int .u16 id, .int .u8 ttl, .int .u8 pr, .int .u32 src, .int .u32 dst, .string s]
  obtain ⟨W0, hW0, s0, q0, o0⟩ := made Wa _ sa 32 #[.int .u16 0, .int .u8 0, .int .u8 0, .int .u32 0, .int .u32 0, .slice none 0 0]
  have K0 := addB (addB (start w) oa qa) o0 q0
  have cv := Mid.of_conv (base := rb + 2) W0 s (by unfold maxLen; omega) (by omega)
  have K1 := addM K0 (only_bytesWorld W0 5 s) cv
  obtain ⟨r0, r1, r2, r3, r4, r5⟩ := Blk.c6 K0.out.2.1
  obtain ⟨z0, z1, z2, z3, z4, z5⟩ := Blk.c6 K1.out.2.1
  have f0 := Blk.frozen K1.out.2.1 0
  have f1 := Blk.frozen K1.out.2.1 1
  have f2 := Blk.frozen K1.out.2.1 2
  have f3 := Blk.frozen K1.out.2.1 3
  have f4 := Blk.frozen K1.out.2.1 4
  have f5 := Blk.frozen K1.out.2.1 5
  have HWA := Lib.hid hWa
  have HW0 := Lib.hid hW0
  have HRB := Lib.hid hrb
  have S0 := Lib.hid s0
  clear qa oa q0 o0 cv hWa hW0 sa s0
  go_enter Try.func10, Try.ntmps10
  go_upto_region 1 with (fail)
  rw [← HWA.out]
  rw [← HW0.out]
  go_wp2_with (fail)
  generalize Lib.bytesWorld W0 5 s = V at *
  generalize grownCap W0 s.size 0 5 = cc at *
  rw [S0.out] at *
  obtain ⟨T, hT, qt, ot⟩ := put6 V (rb + 1) 32 _ K1.out.2.1 rfl (.int .u16 id) (.int .u8 ttl) (.int .u8 pr) (.int .u32 src) (.int .u32 dst) (.slice (some ⟨rb + 1 + 1, 0, none⟩) s.size cc)
  rw [← hT]
  have hr := HRB.out
  have K2 := stayB (Lib.hid ⟨K1.out.1, K1.out.2.2⟩ : Hid (Holds (.mid _ _ _ _ _ _ _ :: _) V)) ot (by simp only [FarB, Fact.farB, and_true, bk_some]; omega)
  obtain ⟨t0, t1, t2, t3, t4, t5⟩ := Blk.c6 qt
  have hm : Mid T (rb + 2) 5 1 (some ⟨rb + 1 + 1, 0, none⟩) s.size cc (u8s (codes s)) := K2.out.1
  exact bodyPost_ret (v := .agg #[.int .u16 id, .int .u8 ttl, .int .u8 pr, .int .u32 src, .int .u32 dst, .slice (some ⟨rb + 1 + 1, 0, none⟩) s.size cc]) (by simp [results, Try.results10, go_sem, t0, t1, t2, t3, t4, t5]) rfl
    ⟨_, _, rfl, hm.sl.to_byt (codes_bd s), hm.le, hm.cm, K2.out.2.2.1⟩
set_option maxHeartbeats 1000000 in
theorem qto_any (id ttl pr src dst : Int) (A : Option Addr) (n c : Nat) (cs : List Int) (w : World) (hb : Byt w A n cs) :
    Calls Try.prog 16 #[.agg #[.int .u16 id, .int .u8 ttl, .int .u8 pr, .int .u32 src, .int .u32 dst, .slice A n c]] w fun e w' => e = .returned (.agg #[.int .u16 id, .int .u8 ttl, .int .u8 pr, .int .u32 src, .int .u32 dst, .string (strOfNums cs)]) ∧ Only (fun _ => False) w w' := by
  have h2 : Only (fun _ => False) w ((w.alloc (.cells #[.int .u16 id, .int .u8 ttl, .int .u8 pr, .int .u32 src, .int .u32 dst, .slice A n c] 32)).alloc (.cells #[.int .u16 0, .int .u8 0, .int .u8 0, .int .u32 0, .int .u32 0, .string ⟨#[]⟩] 25)) := ((Only.refl _ w).alloc _).alloc _
  have kb := conv_bs (c := c) (hb.only h2 (fun _ _ _ h => h)) 27 9 Try.underlying27 Try.underlying5 Try.underlying9
  clear h2 hb
  go_enter Try.func16, Try.ntmps16
  go_wp2_with (fail)
  exact bodyPost_ret (v := .agg #[.int .u16 id, .int .u8 ttl, .int .u8 pr, .int .u32 src, .int .u32 dst, .string (strOfNums cs)]) (by simp [results, Try.results16, go_sem]) rfl ⟨rfl, ((Only.refl _ w).alloc _).alloc _⟩
set_option maxRecDepth 100000 in
set_option maxHeartbeats 1000000 in
theorem alive_any (w : World) : Calls Try.prog 8 #[] w fun e w' => e = .returned (.bool true) ∧ Only (fun _ => False) w w' := by
  have hP : PkI 0 64 0 0 0 := ⟨by decide, by decide, by decide, by decide, by decide, by decide, by decide, by decide, by decide, by decide⟩
  have IB := Lib.hid (bytes_any 0 64 0 0 0 none 0 0 [] w hP (Byt.zero _ _) (by decide))
  have g2 : gb (hB 0 64 0 0 0 0 ++ []) 2 = 0 := by decide
  have g3 : gb (hB 0 64 0 0 0 0 ++ []) 3 = 20 := by decide
  have ok : lenOk ((0 : Nat) : Int) := ⟨by decide, by decide⟩
  have IP := Lib.hid (fun w => qparse_any none 0 0 [] w (Byt.zero _ _) (by decide) (Nat.le_refl _) (Nat.zero_le _))
  have e3 : qF [] = qz 50 := rfl
  unfold IQPost at IP
  rw [e3] at IP
  simp only [qz] at IP
  unfold pkv at IB
  have G2 := Lib.hid g2
  have G3 := Lib.hid g3
  have OK := Lib.hid ok
  clear hP e3 g2 g3 ok
  go_enter Try.func8, Try.ntmps8
  go_wp2_with (fail)
  refine IB.out.mono ?_
  rintro e w1 (⟨-, A1, c1, rfl, hob⟩ | ⟨h, -⟩)
  case inr => exact absurd OK.out h
  have hb1 := hob.byt
  have K1 := addY (start w) hob.only hb1
  clear IB hob hb1
  go_wp2_with (fail)
  refine (IP.out _).mono ?_
  rintro e w2 ⟨B, cb, rfl, -, -, -, ho2⟩
  have K2 := stay K1 ho2
  clear IP ho2 K1
  go_upto_region 3 with (fail)
  generalize hW : World.alloc _ _ = W at *
  have K3 : Hid (Holds _ W) := hW ▸ stay K2 ((Only.refl _ w2).alloc _)
  obtain ⟨b, off, rfl, hc⟩ := Byt.at_ K3.out.1 (by decide)
  have c2 := hc 2 (by decide)
  have c3 := hc 3 (by decide)
  have e2 := G2.out
  have e3 := G3.out
  rw [show ((0 : Nat) : Int) = 0 from rfl, e2] at c2
  rw [show ((0 : Nat) : Int) = 0 from rfl, e3] at c3
  clear hW K2 G2 G3 hc e2 e3
  go_wp2_with (fail)
  go_ret
  exact ⟨rfl, K3.out.2.1⟩
theorem u_bd {k : IntKind} {n : Int} (hw : (Lit.int k n).wf = true) : k.min ≤ n ∧ n ≤ k.max := by simpa [Lit.wf] using hw
theorem seen_ip {w : World} {v : Value} (s : Seen w 25 v) : ∃ id ttl pr src dst s, v = .agg #[.int .u16 id, .int .u8 ttl, .int .u8 pr, .int .u32 src, .int .u32 dst, .string s] ∧ PkI id ttl pr src dst ∧ s.size ≤ maxLen := by
  obtain ⟨cs, rfl, hr⟩ := s.struct Try.underlying25
  obtain ⟨hl, hf⟩ := hr.struct Try.underlying25
  have hc : Try.prog.cellsOf 25 = 6 := by kernel_rfl
  rw [hc] at hl
  obtain ⟨x0, x1, x2, x3, x4, x5, hx⟩ : ∃ x0 x1 x2 x3 x4 x5, cs.toList = [x0, x1, x2, x3, x4, x5] := by
    match h : cs.toList, hl with
    | [a, b, c, d, e, f], _ => exact ⟨a, b, c, d, e, f, rfl⟩
  rw [hx] at hf
  have f0 : Reads w 22 [x0] := hf 0 _ rfl
  have f1 : Reads w 5 [x1] := hf 1 _ rfl
  have f2 : Reads w 5 [x2] := hf 2 _ rfl
  have f3 : Reads w 23 [x3] := hf 3 _ rfl
  have f4 : Reads w 23 [x4] := hf 4 _ rfl
  have f5 : Reads w 9 [x5] := hf 5 _ rfl
  obtain ⟨n0, e0, w0⟩ := f0.int (k := .u16) Try.underlying22
  obtain ⟨n1, e1, w1⟩ := f1.int (k := .u8) Try.underlying5
  obtain ⟨n2, e2, w2⟩ := f2.int (k := .u8) Try.underlying5
  obtain ⟨n3, e3, w3⟩ := f3.int (k := .u32) Try.underlying23
  obtain ⟨n4, e4, w4⟩ := f4.int (k := .u32) Try.underlying23
  obtain ⟨n5, e5, w5⟩ := f5.str Try.underlying9
  simp only [List.cons.injEq, and_true] at e0 e1 e2 e3 e4 e5
  subst e0 e1 e2 e3 e4 e5
  have k0 := u_bd w0
  have k1 := u_bd w1
  have k2 := u_bd w2
  have k3 := u_bd w3
  have k4 := u_bd w4
  have m1 : IntKind.u16.min = 0 := by decide
  have m2 : IntKind.u16.max = 65535 := by decide
  have m3 : IntKind.u8.min = 0 := by decide
  have m4 : IntKind.u8.max = 255 := by decide
  have m5 : IntKind.u32.min = 0 := by decide
  have m6 : IntKind.u32.max = 4294967295 := by decide
  refine ⟨n0, n1, n2, n3, n4, n5, ?_, ⟨by omega, by omega, by omega, by omega, by omega, by omega, by omega, by omega, by omega, by omega⟩, w5⟩
  congr 1
  apply Array.ext'
  exact hx
theorem eq_ip (w : World) (a b c d e : Int) (s : ByteArray) : (binOp .eql 25 (.agg #[.int .u16 a, .int .u8 b, .int .u8 c, .int .u32 d, .int .u32 e, .string s]) (.agg #[.int .u16 a, .int .u8 b, .int .u8 c, .int .u32 d, .int .u32 e, .string s])).run Try.prog w = .ok (.bool true) w := by
  have h1 : Try.prog.stoodInHeld 25 = false := by kernel_rfl
  simp [go_sem, h1]
theorem ne_ip (w : World) (a b c d e : Int) (s : ByteArray) : (binOp .neq 25 (.agg #[.int .u16 a, .int .u8 b, .int .u8 c, .int .u32 d, .int .u32 e, .string s]) (.agg #[.int .u16 a, .int .u8 b, .int .u8 c, .int .u32 d, .int .u32 e, .string s])).run Try.prog w = .ok (.bool false) w := by
  have h1 : Try.prog.stoodInHeld 25 = false := by kernel_rfl
  simp [go_sem, h1]
end Go.Proofs.Ytdnimlabgcdkkaa
