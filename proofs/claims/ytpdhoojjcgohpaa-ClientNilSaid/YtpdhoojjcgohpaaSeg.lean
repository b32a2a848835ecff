
/- Contracts of segments: bare. -/
import Derived.Test.YtpdhoojjcgohpaaSegP
import Derived.Test.YtpdhoojjcgohpaaLex
import Derived.Deep.RegionHeld3
import Derived.Deep.RegionLaw
namespace Go.Proofs.Ytpdhoojjcgohpaa
set_option maxRecDepth 4000
open Go.RowKit
set_option linter.unusedVariables false

theorem sidx0 (fr to_ sq ak d fl wi : Int) (w : World) : (Instr.index 153 (.agg #[.int .u64 fr, .int .i64 2, .int .u64 to_, .int .i64 2, .int .u64 sq, .int .i64 4, .int .u64 ak, .int .i64 4, .int .u64 d, .int .i64 1, .int .u64 fl, .int .i64 1, .int .u64 wi, .int .i64 2, .int .u64 0, .int .i64 4]) (.int .i64 0)).run Try.prog w = .ok (.agg #[.int .u64 fr, .int .i64 2]) w := by
  simp [Instr.index, run_underlying Try.underlying153, asIntOf, go_sem]
theorem sidx1 (fr to_ sq ak d fl wi : Int) (w : World) : (Instr.index 153 (.agg #[.int .u64 fr, .int .i64 2, .int .u64 to_, .int .i64 2, .int .u64 sq, .int .i64 4, .int .u64 ak, .int .i64 4, .int .u64 d, .int .i64 1, .int .u64 fl, .int .i64 1, .int .u64 wi, .int .i64 2, .int .u64 0, .int .i64 4]) (.int .i64 1)).run Try.prog w = .ok (.agg #[.int .u64 to_, .int .i64 2]) w := by
  simp [Instr.index, run_underlying Try.underlying153, asIntOf, go_sem]
theorem sidx2 (fr to_ sq ak d fl wi : Int) (w : World) : (Instr.index 153 (.agg #[.int .u64 fr, .int .i64 2, .int .u64 to_, .int .i64 2, .int .u64 sq, .int .i64 4, .int .u64 ak, .int .i64 4, .int .u64 d, .int .i64 1, .int .u64 fl, .int .i64 1, .int .u64 wi, .int .i64 2, .int .u64 0, .int .i64 4]) (.int .i64 2)).run Try.prog w = .ok (.agg #[.int .u64 sq, .int .i64 4]) w := by
  simp [Instr.index, run_underlying Try.underlying153, asIntOf, go_sem]
theorem sidx3 (fr to_ sq ak d fl wi : Int) (w : World) : (Instr.index 153 (.agg #[.int .u64 fr, .int .i64 2, .int .u64 to_, .int .i64 2, .int .u64 sq, .int .i64 4, .int .u64 ak, .int .i64 4, .int .u64 d, .int .i64 1, .int .u64 fl, .int .i64 1, .int .u64 wi, .int .i64 2, .int .u64 0, .int .i64 4]) (.int .i64 3)).run Try.prog w = .ok (.agg #[.int .u64 ak, .int .i64 4]) w := by
  simp [Instr.index, run_underlying Try.underlying153, asIntOf, go_sem]
theorem sidx4 (fr to_ sq ak d fl wi : Int) (w : World) : (Instr.index 153 (.agg #[.int .u64 fr, .int .i64 2, .int .u64 to_, .int .i64 2, .int .u64 sq, .int .i64 4, .int .u64 ak, .int .i64 4, .int .u64 d, .int .i64 1, .int .u64 fl, .int .i64 1, .int .u64 wi, .int .i64 2, .int .u64 0, .int .i64 4]) (.int .i64 4)).run Try.prog w = .ok (.agg #[.int .u64 d, .int .i64 1]) w := by
  simp [Instr.index, run_underlying Try.underlying153, asIntOf, go_sem]
theorem sidx5 (fr to_ sq ak d fl wi : Int) (w : World) : (Instr.index 153 (.agg #[.int .u64 fr, .int .i64 2, .int .u64 to_, .int .i64 2, .int .u64 sq, .int .i64 4, .int .u64 ak, .int .i64 4, .int .u64 d, .int .i64 1, .int .u64 fl, .int .i64 1, .int .u64 wi, .int .i64 2, .int .u64 0, .int .i64 4]) (.int .i64 5)).run Try.prog w = .ok (.agg #[.int .u64 fl, .int .i64 1]) w := by
  simp [Instr.index, run_underlying Try.underlying153, asIntOf, go_sem]
theorem sidx6 (fr to_ sq ak d fl wi : Int) (w : World) : (Instr.index 153 (.agg #[.int .u64 fr, .int .i64 2, .int .u64 to_, .int .i64 2, .int .u64 sq, .int .i64 4, .int .u64 ak, .int .i64 4, .int .u64 d, .int .i64 1, .int .u64 fl, .int .i64 1, .int .u64 wi, .int .i64 2, .int .u64 0, .int .i64 4]) (.int .i64 6)).run Try.prog w = .ok (.agg #[.int .u64 wi, .int .i64 2]) w := by
  simp [Instr.index, run_underlying Try.underlying153, asIntOf, go_sem]
theorem sidx7 (fr to_ sq ak d fl wi : Int) (w : World) : (Instr.index 153 (.agg #[.int .u64 fr, .int .i64 2, .int .u64 to_, .int .i64 2, .int .u64 sq, .int .i64 4, .int .u64 ak, .int .i64 4, .int .u64 d, .int .i64 1, .int .u64 fl, .int .i64 1, .int .u64 wi, .int .i64 2, .int .u64 0, .int .i64 4]) (.int .i64 7)).run Try.prog w = .ok (.agg #[.int .u64 0, .int .i64 4]) w := by
  simp [Instr.index, run_underlying Try.underlying153, asIntOf, go_sem]
set_option maxRecDepth 100000 in
set_option maxHeartbeats 1000000 in
theorem bare_0 (fr to_ sq ak fl wi : Int) (A : Option Addr) (n c : Nat) (w : World) (f0 : 0 ≤ fr) (f1 : fr < 65536) (t0 : 0 ≤ to_) (t1 : to_ < 65536) (q0 : 0 ≤ sq) (q1 : sq < 4294967296) (a0 : 0 ≤ ak) (a1 : ak < 4294967296) (l0 : 0 ≤ fl) (l1 : fl ≤ 63) (w0 : 0 ≤ wi) (w1 : wi < 65536) :
    Calls Try.prog 70 #[.agg #[.int .u16 fr, .int .u16 to_, .int .u32 sq, .int .u32 ak, .int .i64 fl, .int .u16 wi, .int .i64 0, .slice A n c]] w fun e w' => ∃ A' c', e = .returned (.slice A' 20 c') ∧ Ob w w' A' 20 c' (catF [(fr, 2), (to_, 2), (sq, 4), (ak, 4), (80, 1), (fl, 1), (wi, 2), (0, 4)]) := by
  obtain ⟨i0, hi, hz0, hz1, hz2⟩ := info_parts infoU8
  have kx0 := fun w => sidx0 fr to_ sq ak 80 fl wi w
  have kx1 := fun w => sidx1 fr to_ sq ak 80 fl wi w
  have kx2 := fun w => sidx2 fr to_ sq ak 80 fl wi w
  have kx3 := fun w => sidx3 fr to_ sq ak 80 fl wi w
  have kx4 := fun w => sidx4 fr to_ sq ak 80 fl wi w
  have kx5 := fun w => sidx5 fr to_ sq ak 80 fl wi w
  have kx6 := fun w => sidx6 fr to_ sq ak 80 fl wi w
  have kx7 := fun w => sidx7 fr to_ sq ak 80 fl wi w
  obtain ⟨pb, hpb⟩ : ∃ x, w.heap.size = x := ⟨_, rfl⟩
  obtain ⟨W0, hW0, s0, z0, o0⟩ := made w _ hpb 58 #[.int .u16 fr, .int .u16 to_, .int .u32 sq, .int .u32 ak, .int .i64 fl, .int .u16 wi, .int .i64 0, .slice A n c]
  have K0 := addB (start w) o0 z0
  have HW0 := Lib.hid hW0
  have HPB := Lib.hid hpb
  have S0 := Lib.hid s0
  obtain ⟨r0, r1, r2, r3, r4, r5, r6, r7⟩ := Blk.c8 K0.out.1
  clear hW0 s0 z0 o0 hpb
  go_enter Try.func70, Try.ntmps70
  go_upto_region 1 with (fail)
  rw [← HW0.out]
  try rw [HPB.out]
  clear HW0
  go_upto_region 6 with (fail)
  clear r0 r1 r2 r3 r4 r5 r6 r7
  go_loopg [4, 43] 8 (fun gk v i' wr => ∃ (i m : Nat) (A' : Option Addr) (c' : Nat), gk + i = 8 ∧ i' = .int .i64 i ∧ v = .slice A' m c' ∧ m = (catF ([(fr, 2), (to_, 2), (sq, 4), (ak, 4), (80, 1), (fl, 1), (wi, 2), (0, 4)].take i)).length ∧ Ob W0 wr A' m c' (catF ([(fr, 2), (to_, 2), (sq, 4), (ak, 4), (80, 1), (fl, 1), (wi, 2), (0, 4)].take i)))
  case atStart => exact ⟨0, 0, none, 0, by omega, rfl, rfl, rfl, ⟨Mid.nil _ _ _ _, AllB.nil, Only.refl _ W0⟩⟩
  case round =>
    obtain ⟨i, m, A', c', hgk, rfl, rfl, hm, hob⟩ := hrel
    have HGK := Lib.hid hgk
    have OB := Lib.hid hob
    rcases (by omega : i = 0 ∨ i = 1 ∨ i = 2 ∨ i = 3 ∨ i = 4 ∨ i = 5 ∨ i = 6 ∨ i = 7 ∨ i = 8) with rfl | rfl | rfl | rfl | rfl | rfl | rfl | rfl | rfl
    · obtain rfl : m = 0 := hm.trans (by simp [catF])
      have ho2 := (Only.refl (fun _ => False) wr).alloc (.cells #[.int .u64 fr, .int .i64 2] 152)
      have HO2 := Lib.hid ho2
      have BY := Lib.hid (hob.byt.only ho2 (fun _ _ _ h => h))
      clear hgk hob hm ho2
      go_wp2_with (fail)
      refine (put_ok A' 0 c' _ fr 2 _ BY.out (by decide) (by omega) (by omega) (by decide) (by decide) (by show _ < 65536; omega)).mono ?_
      rintro e w2 ⟨A2, c2, rfl, hob⟩
      have OB2 : Hid (Ob W0 w2 A2 2 c2 (catF ([(fr, 2), (to_, 2), (sq, 4), (ak, 4), (80, 1), (fl, 1), (wi, 2), (0, 4)].take 1))) := Lib.hid ⟨by
        have h := hob.mid.mono (Nat.le_trans OB.out.only.size HO2.out.size)
        simpa [catF] using h, by have h := hob.bd; simpa [catF] using h, (OB.out.only.then HO2.out).then hob.only⟩
      clear hob
      go_wp2_with (fail)
      go_roundg 7
      case measure => have := HGK.out; omega
      case rel => exact ⟨1, 2, A2, c2, rfl, rfl, rfl, by simp [catF, lo_len], OB2.out⟩
    · obtain rfl : m = 2 := hm.trans (by simp [catF, lo_len])
      have ho2 := (Only.refl (fun _ => False) wr).alloc (.cells #[.int .u64 to_, .int .i64 2] 152)
      have HO2 := Lib.hid ho2
      have BY := Lib.hid (hob.byt.only ho2 (fun _ _ _ h => h))
      clear hgk hob hm ho2
      go_wp2_with (fail)
      refine (put_ok A' 2 c' _ to_ 2 _ BY.out (by decide) (by omega) (by omega) (by decide) (by decide) (by show _ < 65536; omega)).mono ?_
      rintro e w2 ⟨A2, c2, rfl, hob⟩
      have OB2 : Hid (Ob W0 w2 A2 4 c2 (catF ([(fr, 2), (to_, 2), (sq, 4), (ak, 4), (80, 1), (fl, 1), (wi, 2), (0, 4)].take 2))) := Lib.hid ⟨by
        have h := hob.mid.mono (Nat.le_trans OB.out.only.size HO2.out.size)
        simpa [catF] using h, by have h := hob.bd; simpa [catF] using h, (OB.out.only.then HO2.out).then hob.only⟩
      clear hob
      go_wp2_with (fail)
      go_roundg 6
      case measure => have := HGK.out; omega
      case rel => exact ⟨2, 4, A2, c2, rfl, rfl, rfl, by simp [catF, lo_len], OB2.out⟩
    · obtain rfl : m = 4 := hm.trans (by simp [catF, lo_len])
      have ho2 := (Only.refl (fun _ => False) wr).alloc (.cells #[.int .u64 sq, .int .i64 4] 152)
      have HO2 := Lib.hid ho2
      have BY := Lib.hid (hob.byt.only ho2 (fun _ _ _ h => h))
      clear hgk hob hm ho2
      go_wp2_with (fail)
      refine (put_ok A' 4 c' _ sq 4 _ BY.out (by decide) (by omega) (by omega) (by decide) (by decide) (by show _ < 4294967296; omega)).mono ?_
      rintro e w2 ⟨A2, c2, rfl, hob⟩
      have OB2 : Hid (Ob W0 w2 A2 8 c2 (catF ([(fr, 2), (to_, 2), (sq, 4), (ak, 4), (80, 1), (fl, 1), (wi, 2), (0, 4)].take 3))) := Lib.hid ⟨by
        have h := hob.mid.mono (Nat.le_trans OB.out.only.size HO2.out.size)
        simpa [catF] using h, by have h := hob.bd; simpa [catF] using h, (OB.out.only.then HO2.out).then hob.only⟩
      clear hob
      go_wp2_with (fail)
      go_roundg 5
      case measure => have := HGK.out; omega
      case rel => exact ⟨3, 8, A2, c2, rfl, rfl, rfl, by simp [catF, lo_len], OB2.out⟩
    · obtain rfl : m = 8 := hm.trans (by simp [catF, lo_len])
      have ho2 := (Only.refl (fun _ => False) wr).alloc (.cells #[.int .u64 ak, .int .i64 4] 152)
      have HO2 := Lib.hid ho2
      have BY := Lib.hid (hob.byt.only ho2 (fun _ _ _ h => h))
      clear hgk hob hm ho2
      go_wp2_with (fail)
      refine (put_ok A' 8 c' _ ak 4 _ BY.out (by decide) (by omega) (by omega) (by decide) (by decide) (by show _ < 4294967296; omega)).mono ?_
      rintro e w2 ⟨A2, c2, rfl, hob⟩
      have OB2 : Hid (Ob W0 w2 A2 12 c2 (catF ([(fr, 2), (to_, 2), (sq, 4), (ak, 4), (80, 1), (fl, 1), (wi, 2), (0, 4)].take 4))) := Lib.hid ⟨by
        have h := hob.mid.mono (Nat.le_trans OB.out.only.size HO2.out.size)
        simpa [catF] using h, by have h := hob.bd; simpa [catF] using h, (OB.out.only.then HO2.out).then hob.only⟩
      clear hob
      go_wp2_with (fail)
      go_roundg 4
      case measure => have := HGK.out; omega
      case rel => exact ⟨4, 12, A2, c2, rfl, rfl, rfl, by simp [catF, lo_len], OB2.out⟩
    · obtain rfl : m = 12 := hm.trans (by simp [catF, lo_len])
      have ho2 := (Only.refl (fun _ => False) wr).alloc (.cells #[.int .u64 80, .int .i64 1] 152)
      have HO2 := Lib.hid ho2
      have BY := Lib.hid (hob.byt.only ho2 (fun _ _ _ h => h))
      clear hgk hob hm ho2
      go_wp2_with (fail)
      refine (put_ok A' 12 c' _ 80 1 _ BY.out (by decide) (by omega) (by omega) (by decide) (by decide) (by show _ < 256; omega)).mono ?_
      rintro e w2 ⟨A2, c2, rfl, hob⟩
      have OB2 : Hid (Ob W0 w2 A2 13 c2 (catF ([(fr, 2), (to_, 2), (sq, 4), (ak, 4), (80, 1), (fl, 1), (wi, 2), (0, 4)].take 5))) := Lib.hid ⟨by
        have h := hob.mid.mono (Nat.le_trans OB.out.only.size HO2.out.size)
        simpa [catF] using h, by have h := hob.bd; simpa [catF] using h, (OB.out.only.then HO2.out).then hob.only⟩
      clear hob
      go_wp2_with (fail)
      go_roundg 3
      case measure => have := HGK.out; omega
      case rel => exact ⟨5, 13, A2, c2, rfl, rfl, rfl, by simp [catF, lo_len], OB2.out⟩
    · obtain rfl : m = 13 := hm.trans (by simp [catF, lo_len])
      have ho2 := (Only.refl (fun _ => False) wr).alloc (.cells #[.int .u64 fl, .int .i64 1] 152)
      have HO2 := Lib.hid ho2
      have BY := Lib.hid (hob.byt.only ho2 (fun _ _ _ h => h))
      clear hgk hob hm ho2
      go_wp2_with (fail)
      refine (put_ok A' 13 c' _ fl 1 _ BY.out (by decide) (by omega) (by omega) (by decide) (by decide) (by show _ < 256; omega)).mono ?_
      rintro e w2 ⟨A2, c2, rfl, hob⟩
      have OB2 : Hid (Ob W0 w2 A2 14 c2 (catF ([(fr, 2), (to_, 2), (sq, 4), (ak, 4), (80, 1), (fl, 1), (wi, 2), (0, 4)].take 6))) := Lib.hid ⟨by
        have h := hob.mid.mono (Nat.le_trans OB.out.only.size HO2.out.size)
        simpa [catF] using h, by have h := hob.bd; simpa [catF] using h, (OB.out.only.then HO2.out).then hob.only⟩
      clear hob
      go_wp2_with (fail)
      go_roundg 2
      case measure => have := HGK.out; omega
      case rel => exact ⟨6, 14, A2, c2, rfl, rfl, rfl, by simp [catF, lo_len], OB2.out⟩
    · obtain rfl : m = 14 := hm.trans (by simp [catF, lo_len])
      have ho2 := (Only.refl (fun _ => False) wr).alloc (.cells #[.int .u64 wi, .int .i64 2] 152)
      have HO2 := Lib.hid ho2
      have BY := Lib.hid (hob.byt.only ho2 (fun _ _ _ h => h))
      clear hgk hob hm ho2
      go_wp2_with (fail)
      refine (put_ok A' 14 c' _ wi 2 _ BY.out (by decide) (by omega) (by omega) (by decide) (by decide) (by show _ < 65536; omega)).mono ?_
      rintro e w2 ⟨A2, c2, rfl, hob⟩
      have OB2 : Hid (Ob W0 w2 A2 16 c2 (catF ([(fr, 2), (to_, 2), (sq, 4), (ak, 4), (80, 1), (fl, 1), (wi, 2), (0, 4)].take 7))) := Lib.hid ⟨by
        have h := hob.mid.mono (Nat.le_trans OB.out.only.size HO2.out.size)
        simpa [catF] using h, by have h := hob.bd; simpa [catF] using h, (OB.out.only.then HO2.out).then hob.only⟩
      clear hob
      go_wp2_with (fail)
      go_roundg 1
      case measure => have := HGK.out; omega
      case rel => exact ⟨7, 16, A2, c2, rfl, rfl, rfl, by simp [catF, lo_len], OB2.out⟩
    · obtain rfl : m = 16 := hm.trans (by simp [catF, lo_len])
      have ho2 := (Only.refl (fun _ => False) wr).alloc (.cells #[.int .u64 0, .int .i64 4] 152)
      have HO2 := Lib.hid ho2
      have BY := Lib.hid (hob.byt.only ho2 (fun _ _ _ h => h))
      clear hgk hob hm ho2
      go_wp2_with (fail)
      refine (put_ok A' 16 c' _ 0 4 _ BY.out (by decide) (by omega) (by omega) (by decide) (by decide) (by show _ < 4294967296; omega)).mono ?_
      rintro e w2 ⟨A2, c2, rfl, hob⟩
      have OB2 : Hid (Ob W0 w2 A2 20 c2 (catF ([(fr, 2), (to_, 2), (sq, 4), (ak, 4), (80, 1), (fl, 1), (wi, 2), (0, 4)].take 8))) := Lib.hid ⟨by
        have h := hob.mid.mono (Nat.le_trans OB.out.only.size HO2.out.size)
        simpa [catF] using h, by have h := hob.bd; simpa [catF] using h, (OB.out.only.then HO2.out).then hob.only⟩
      clear hob
      go_wp2_with (fail)
      go_roundg 0
      case measure => have := HGK.out; omega
      case rel => exact ⟨8, 20, A2, c2, rfl, rfl, rfl, by simp [catF, lo_len], OB2.out⟩
    · obtain rfl : m = 20 := hm.trans (by simp [catF, lo_len])
      have KR := stay K0 hob.only
      obtain ⟨r0, r1, r2, r3, r4, r5, r6, r7⟩ := Blk.c8 KR.out.1
      clear hgk hob hm kx0 kx1 kx2 kx3 kx4 kx5 kx6 kx7
      go_wp2_with (fail)
      go_ret
      exact ⟨A', c', rfl, OB.out.mid.mono (by have := S0.out; have := HPB.out; omega), OB.out.bd, KR.out.2.1⟩
set_option maxRecDepth 100000 in
set_option maxHeartbeats 1000000 in
theorem bare_1 (fr to_ sq ak fl wi ms : Int) (A : Option Addr) (n c : Nat) (w : World) (f0 : 0 ≤ fr) (f1 : fr < 65536) (t0 : 0 ≤ to_) (t1 : to_ < 65536) (q0 : 0 ≤ sq) (q1 : sq < 4294967296) (a0 : 0 ≤ ak) (a1 : ak < 4294967296) (l0 : 0 ≤ fl) (l1 : fl ≤ 63) (w0 : 0 ≤ wi) (w1 : wi < 65536) (m0 : 0 < ms) (m1 : ms ≤ 65535) :
    Calls Try.prog 70 #[.agg #[.int .u16 fr, .int .u16 to_, .int .u32 sq, .int .u32 ak, .int .i64 fl, .int .u16 wi, .int .i64 ms, .slice A n c]] w fun e w' => ∃ A' c', e = .returned (.slice A' 24 c') ∧ Ob w w' A' 24 c' (catF [(fr, 2), (to_, 2), (sq, 4), (ak, 4), (96, 1), (fl, 1), (wi, 2), (0, 4)] ++ (2 :: 4 :: lo ms 2)) := by
  obtain ⟨i0, hi, hz0, hz1, hz2⟩ := info_parts infoU8
  have kx0 := fun w => sidx0 fr to_ sq ak 96 fl wi w
  have kx1 := fun w => sidx1 fr to_ sq ak 96 fl wi w
  have kx2 := fun w => sidx2 fr to_ sq ak 96 fl wi w
  have kx3 := fun w => sidx3 fr to_ sq ak 96 fl wi w
  have kx4 := fun w => sidx4 fr to_ sq ak 96 fl wi w
  have kx5 := fun w => sidx5 fr to_ sq ak 96 fl wi w
  have kx6 := fun w => sidx6 fr to_ sq ak 96 fl wi w
  have kx7 := fun w => sidx7 fr to_ sq ak 96 fl wi w
  obtain ⟨pb, hpb⟩ : ∃ x, w.heap.size = x := ⟨_, rfl⟩
  obtain ⟨W0, hW0, s0, z0, o0⟩ := made w _ hpb 58 #[.int .u16 fr, .int .u16 to_, .int .u32 sq, .int .u32 ak, .int .i64 fl, .int .u16 wi, .int .i64 ms, .slice A n c]
  have K0 := addB (start w) o0 z0
  have HW0 := Lib.hid hW0
  have HPB := Lib.hid hpb
  have S0 := Lib.hid s0
  obtain ⟨r0, r1, r2, r3, r4, r5, r6, r7⟩ := Blk.c8 K0.out.1
  have hms : (ms != 0) = true := by simp; omega
  have hms2 : (ms == 0) = false := by simp; omega
  clear hW0 s0 z0 o0 hpb
  go_enter Try.func70, Try.ntmps70
  go_upto_region 1 with (fail)
  rw [← HW0.out]
  try rw [HPB.out]
  clear HW0
  go_upto_region 6 with (fail)
  clear r0 r1 r2 r3 r4 r5 r6 r7
  go_loopg [4, 43] 8 (fun gk v i' wr => ∃ (i m : Nat) (A' : Option Addr) (c' : Nat), gk + i = 8 ∧ i' = .int .i64 i ∧ v = .slice A' m c' ∧ m = (catF ([(fr, 2), (to_, 2), (sq, 4), (ak, 4), (96, 1), (fl, 1), (wi, 2), (0, 4)].take i)).length ∧ Ob W0 wr A' m c' (catF ([(fr, 2), (to_, 2), (sq, 4), (ak, 4), (96, 1), (fl, 1), (wi, 2), (0, 4)].take i)))
  case atStart => exact ⟨0, 0, none, 0, by omega, rfl, rfl, rfl, ⟨Mid.nil _ _ _ _, AllB.nil, Only.refl _ W0⟩⟩
  case round =>
    obtain ⟨i, m, A', c', hgk, rfl, rfl, hm, hob⟩ := hrel
    have HGK := Lib.hid hgk
    have OB := Lib.hid hob
    rcases (by omega : i = 0 ∨ i = 1 ∨ i = 2 ∨ i = 3 ∨ i = 4 ∨ i = 5 ∨ i = 6 ∨ i = 7 ∨ i = 8) with rfl | rfl | rfl | rfl | rfl | rfl | rfl | rfl | rfl
    · obtain rfl : m = 0 := hm.trans (by simp [catF])
      have ho2 := (Only.refl (fun _ => False) wr).alloc (.cells #[.int .u64 fr, .int .i64 2] 152)
      have HO2 := Lib.hid ho2
      have BY := Lib.hid (hob.byt.only ho2 (fun _ _ _ h => h))
      clear hgk hob hm ho2
      go_wp2_with (fail)
      refine (put_ok A' 0 c' _ fr 2 _ BY.out (by decide) (by omega) (by omega) (by decide) (by decide) (by show _ < 65536; omega)).mono ?_
      rintro e w2 ⟨A2, c2, rfl, hob⟩
      have OB2 : Hid (Ob W0 w2 A2 2 c2 (catF ([(fr, 2), (to_, 2), (sq, 4), (ak, 4), (96, 1), (fl, 1), (wi, 2), (0, 4)].take 1))) := Lib.hid ⟨by
        have h := hob.mid.mono (Nat.le_trans OB.out.only.size HO2.out.size)
        simpa [catF] using h, by have h := hob.bd; simpa [catF] using h, (OB.out.only.then HO2.out).then hob.only⟩
      clear hob
      go_wp2_with (fail)
      go_roundg 7
      case measure => have := HGK.out; omega
      case rel => exact ⟨1, 2, A2, c2, rfl, rfl, rfl, by simp [catF, lo_len], OB2.out⟩
    · obtain rfl : m = 2 := hm.trans (by simp [catF, lo_len])
      have ho2 := (Only.refl (fun _ => False) wr).alloc (.cells #[.int .u64 to_, .int .i64 2] 152)
      have HO2 := Lib.hid ho2
      have BY := Lib.hid (hob.byt.only ho2 (fun _ _ _ h => h))
      clear hgk hob hm ho2
      go_wp2_with (fail)
      refine (put_ok A' 2 c' _ to_ 2 _ BY.out (by decide) (by omega) (by omega) (by decide) (by decide) (by show _ < 65536; omega)).mono ?_
      rintro e w2 ⟨A2, c2, rfl, hob⟩
      have OB2 : Hid (Ob W0 w2 A2 4 c2 (catF ([(fr, 2), (to_, 2), (sq, 4), (ak, 4), (96, 1), (fl, 1), (wi, 2), (0, 4)].take 2))) := Lib.hid ⟨by
        have h := hob.mid.mono (Nat.le_trans OB.out.only.size HO2.out.size)
        simpa [catF] using h, by have h := hob.bd; simpa [catF] using h, (OB.out.only.then HO2.out).then hob.only⟩
      clear hob
      go_wp2_with (fail)
      go_roundg 6
      case measure => have := HGK.out; omega
      case rel => exact ⟨2, 4, A2, c2, rfl, rfl, rfl, by simp [catF, lo_len], OB2.out⟩
    · obtain rfl : m = 4 := hm.trans (by simp [catF, lo_len])
      have ho2 := (Only.refl (fun _ => False) wr).alloc (.cells #[.int .u64 sq, .int .i64 4] 152)
      have HO2 := Lib.hid ho2
      have BY := Lib.hid (hob.byt.only ho2 (fun _ _ _ h => h))
      clear hgk hob hm ho2
      go_wp2_with (fail)
      refine (put_ok A' 4 c' _ sq 4 _ BY.out (by decide) (by omega) (by omega) (by decide) (by decide) (by show _ < 4294967296; omega)).mono ?_
      rintro e w2 ⟨A2, c2, rfl, hob⟩
      have OB2 : Hid (Ob W0 w2 A2 8 c2 (catF ([(fr, 2), (to_, 2), (sq, 4), (ak, 4), (96, 1), (fl, 1), (wi, 2), (0, 4)].take 3))) := Lib.hid ⟨by
        have h := hob.mid.mono (Nat.le_trans OB.out.only.size HO2.out.size)
        simpa [catF] using h, by have h := hob.bd; simpa [catF] using h, (OB.out.only.then HO2.out).then hob.only⟩
      clear hob
      go_wp2_with (fail)
      go_roundg 5
      case measure => have := HGK.out; omega
      case rel => exact ⟨3, 8, A2, c2, rfl, rfl, rfl, by simp [catF, lo_len], OB2.out⟩
    · obtain rfl : m = 8 := hm.trans (by simp [catF, lo_len])
      have ho2 := (Only.refl (fun _ => False) wr).alloc (.cells #[.int .u64 ak, .int .i64 4] 152)
      have HO2 := Lib.hid ho2
      have BY := Lib.hid (hob.byt.only ho2 (fun _ _ _ h => h))
      clear hgk hob hm ho2
      go_wp2_with (fail)
      refine (put_ok A' 8 c' _ ak 4 _ BY.out (by decide) (by omega) (by omega) (by decide) (by decide) (by show _ < 4294967296; omega)).mono ?_
      rintro e w2 ⟨A2, c2, rfl, hob⟩
      have OB2 : Hid (Ob W0 w2 A2 12 c2 (catF ([(fr, 2), (to_, 2), (sq, 4), (ak, 4), (96, 1), (fl, 1), (wi, 2), (0, 4)].take 4))) := Lib.hid ⟨by
        have h := hob.mid.mono (Nat.le_trans OB.out.only.size HO2.out.size)
        simpa [catF] using h, by have h := hob.bd; simpa [catF] using h, (OB.out.only.then HO2.out).then hob.only⟩
      clear hob
      go_wp2_with (fail)
      go_roundg 4
      case measure => have := HGK.out; omega
      case rel => exact ⟨4, 12, A2, c2, rfl, rfl, rfl, by simp [catF, lo_len], OB2.out⟩
    · obtain rfl : m = 12 := hm.trans (by simp [catF, lo_len])
      have ho2 := (Only.refl (fun _ => False) wr).alloc (.cells #[.int .u64 96, .int .i64 1] 152)
      have HO2 := Lib.hid ho2
      have BY := Lib.hid (hob.byt.only ho2 (fun _ _ _ h => h))
      clear hgk hob hm ho2
      go_wp2_with (fail)
      refine (put_ok A' 12 c' _ 96 1 _ BY.out (by decide) (by omega) (by omega) (by decide) (by decide) (by show _ < 256; omega)).mono ?_
      rintro e w2 ⟨A2, c2, rfl, hob⟩
      have OB2 : Hid (Ob W0 w2 A2 13 c2 (catF ([(fr, 2), (to_, 2), (sq, 4), (ak, 4), (96, 1), (fl, 1), (wi, 2), (0, 4)].take 5))) := Lib.hid ⟨by
        have h := hob.mid.mono (Nat.le_trans OB.out.only.size HO2.out.size)
        simpa [catF] using h, by have h := hob.bd; simpa [catF] using h, (OB.out.only.then HO2.out).then hob.only⟩
      clear hob
      go_wp2_with (fail)
      go_roundg 3
      case measure => have := HGK.out; omega
      case rel => exact ⟨5, 13, A2, c2, rfl, rfl, rfl, by simp [catF, lo_len], OB2.out⟩
    · obtain rfl : m = 13 := hm.trans (by simp [catF, lo_len])
      have ho2 := (Only.refl (fun _ => False) wr).alloc (.cells #[.int .u64 fl, .int .i64 1] 152)
      have HO2 := Lib.hid ho2
      have BY := Lib.hid (hob.byt.only ho2 (fun _ _ _ h => h))
      clear hgk hob hm ho2
      go_wp2_with (fail)
      refine (put_ok A' 13 c' _ fl 1 _ BY.out (by decide) (by omega) (by omega) (by decide) (by decide) (by show _ < 256; omega)).mono ?_
      rintro e w2 ⟨A2, c2, rfl, hob⟩
      have OB2 : Hid (Ob W0 w2 A2 14 c2 (catF ([(fr, 2), (to_, 2), (sq, 4), (ak, 4), (96, 1), (fl, 1), (wi, 2), (0, 4)].take 6))) := Lib.hid ⟨by
        have h := hob.mid.mono (Nat.le_trans OB.out.only.size HO2.out.size)
        simpa [catF] using h, by have h := hob.bd; simpa [catF] using h, (OB.out.only.then HO2.out).then hob.only⟩
      clear hob
      go_wp2_with (fail)
      go_roundg 2
      case measure => have := HGK.out; omega
      case rel => exact ⟨6, 14, A2, c2, rfl, rfl, rfl, by simp [catF, lo_len], OB2.out⟩
    · obtain rfl : m = 14 := hm.trans (by simp [catF, lo_len])
      have ho2 := (Only.refl (fun _ => False) wr).alloc (.cells #[.int .u64 wi, .int .i64 2] 152)
      have HO2 := Lib.hid ho2
      have BY := Lib.hid (hob.byt.only ho2 (fun _ _ _ h => h))
      clear hgk hob hm ho2
      go_wp2_with (fail)
      refine (put_ok A' 14 c' _ wi 2 _ BY.out (by decide) (by omega) (by omega) (by decide) (by decide) (by show _ < 65536; omega)).mono ?_
      rintro e w2 ⟨A2, c2, rfl, hob⟩
      have OB2 : Hid (Ob W0 w2 A2 16 c2 (catF ([(fr, 2), (to_, 2), (sq, 4), (ak, 4), (96, 1), (fl, 1), (wi, 2), (0, 4)].take 7))) := Lib.hid ⟨by
        have h := hob.mid.mono (Nat.le_trans OB.out.only.size HO2.out.size)
        simpa [catF] using h, by have h := hob.bd; simpa [catF] using h, (OB.out.only.then HO2.out).then hob.only⟩
      clear hob
      go_wp2_with (fail)
      go_roundg 1
      case measure => have := HGK.out; omega
      case rel => exact ⟨7, 16, A2, c2, rfl, rfl, rfl, by simp [catF, lo_len], OB2.out⟩
    · obtain rfl : m = 16 := hm.trans (by simp [catF, lo_len])
      have ho2 := (Only.refl (fun _ => False) wr).alloc (.cells #[.int .u64 0, .int .i64 4] 152)
      have HO2 := Lib.hid ho2
      have BY := Lib.hid (hob.byt.only ho2 (fun _ _ _ h => h))
      clear hgk hob hm ho2
      go_wp2_with (fail)
      refine (put_ok A' 16 c' _ 0 4 _ BY.out (by decide) (by omega) (by omega) (by decide) (by decide) (by show _ < 4294967296; omega)).mono ?_
      rintro e w2 ⟨A2, c2, rfl, hob⟩
      have OB2 : Hid (Ob W0 w2 A2 20 c2 (catF ([(fr, 2), (to_, 2), (sq, 4), (ak, 4), (96, 1), (fl, 1), (wi, 2), (0, 4)].take 8))) := Lib.hid ⟨by
        have h := hob.mid.mono (Nat.le_trans OB.out.only.size HO2.out.size)
        simpa [catF] using h, by have h := hob.bd; simpa [catF] using h, (OB.out.only.then HO2.out).then hob.only⟩
      clear hob
      go_wp2_with (fail)
      go_roundg 0
      case measure => have := HGK.out; omega
      case rel => exact ⟨8, 20, A2, c2, rfl, rfl, rfl, by simp [catF, lo_len], OB2.out⟩
    · obtain rfl : m = 20 := hm.trans (by simp [catF, lo_len])
      have KR := stay K0 hob.only
      obtain ⟨r0, r1, r2, r3, r4, r5, r6, r7⟩ := Blk.c8 KR.out.1
      clear hgk hob hm kx0 kx1 kx2 kx3 kx4 kx5 kx6 kx7
      have KS : Hid (Only (fun _ => False) w W0) := Lib.hid K0.out.2.1
      have OBm := Lib.hid (show Ob W0 wr A' 20 c' (catF [(fr, 2), (to_, 2), (sq, 4), (ak, 4), (96, 1), (fl, 1), (wi, 2), (0, 4)]) from OB.out)
      have LBD := Lib.hid (catF_bd [(fr, 2), (to_, 2), (sq, 4), (ak, 4), (96, 1), (fl, 1), (wi, 2), (0, 4)])
      generalize hL : catF [(fr, 2), (to_, 2), (sq, 4), (ak, 4), (96, 1), (fl, 1), (wi, 2), (0, 4)] = L at *
      have HLE := Lib.hid hL
      clear hL
      go_upto_region 11 with (fail)
      go_cut [4] (fun v wc => ∃ A2 c2, v = .slice A2 24 c2 ∧ Ob W0 wc A2 24 c2 (L ++ (2 :: 4 :: lo ms 2)))
      case first =>
        have HD : Hid (Mid (wr.drew.alloc (.cells #[.int .u8 2, .int .u8 4] 5)) W0.heap.size 5 1 A' 20 c' (u8s L)) := Lib.hid ((OBm.out.mid.drew).alloc _)
        have HS : Hid (Sl (wr.drew.alloc (.cells #[.int .u8 2, .int .u8 4] 5)) 1 (some ⟨wr.heap.size, 0, none⟩) 2 [.int .u8 2, .int .u8 4]) := Lib.hid (Sl.of_blk (Blk.new wr.drew 5 #[.int .u8 2, .int .u8 4]) rfl)
        have HO : Hid (Only (fun _ => False) W0 (wr.drew.alloc (.cells #[.int .u8 2, .int .u8 4] 5))) := Lib.hid (OBm.out.only.drew.alloc _)
        have D6 : Hid (∀ w5, Only (fun k => k + 1 = bk A') (wr.drew.alloc (.cells #[.int .u8 2, .int .u8 4] 5)) w5 → w5.cell? ⟨pb, 6, none⟩ = some (.int .i64 ms)) := Lib.hid (fun w5 ho => by
          have h1 := (KR.out.1 : Blk wr pb 58 _)
          have h2 := (h1.drew.alloc (.cells #[.int .u8 2, .int .u8 4] 5)).only ho (fun e => by
            have h3 := OBm.out.mid.lo (by omega)
            have h4 := S0.out
            omega)
          exact h2.cell 6)
        have PUT : Hid (∀ A5 c5 w5, Mid w5 W0.heap.size 5 1 A5 22 c5 (u8s L ++ [.int .u8 2, .int .u8 4]) → Only (fun k => k + 1 = bk A') (wr.drew.alloc (.cells #[.int .u8 2, .int .u8 4] 5)) w5 →
            Calls Try.prog 75 #[.slice A5 22 c5, .int .u64 ms, .int .i64 2] w5 fun e w' => ∃ A6 c6, e = .returned (.tuple #[.slice A6 24 c6, .int .i64 0]) ∧ Ob W0 w' A6 24 c6 (L ++ (2 :: 4 :: lo ms 2))) := Lib.hid (fun A5 c5 w5 hm ho => by
          have e1 : u8s L ++ [.int .u8 2, .int .u8 4] = u8s (L ++ [2, 4]) := by simp [u8s]
          rw [e1] at hm
          have hb : AllB (L ++ [2, 4]) := LBD.out.app (AllB.of_mem (by intro x hx; simp at hx; omega))
          have h5 : Only (fun _ => False) W0 w5 := HO.out.trans ho (fun k hk e => by have := OBm.out.mid.lo (by omega); omega)
          refine (put_ok A5 22 c5 _ ms 2 _ (hm.sl.to_byt hb) (by decide) (by omega) (by omega) (by decide) (by decide) (by show ms < 65536; omega)).mono ?_
          rintro e w6 ⟨A6, c6, rfl, hob⟩
          have e2 : L ++ [2, 4] ++ lo ms 2 = L ++ (2 :: 4 :: lo ms 2) := by simp
          rw [e2] at hob
          exact ⟨A6, c6, rfl, hob.mid.mono h5.size, hob.bd, h5.then hob.only⟩)
        have kwm : IntKind.u64.wrap ms = ms := IntWalk.u64_in _ (by omega)
        have d8 : (wr.alloc (.cells #[.int .u8 2, .int .u8 4] 5)).cell? ⟨pb, 6, none⟩ = some (.int .i64 ms) := ((KR.out.1 : Blk wr pb 58 _).alloc (.cells #[.int .u8 2, .int .u8 4] 5)).cell 6
        have d7 : (wr.drew.alloc (.cells #[.int .u8 2, .int .u8 4] 5)).cell? ⟨pb, 6, none⟩ = some (.int .i64 ms) := ((KR.out.1 : Blk wr pb 58 _).drew.alloc (.cells #[.int .u8 2, .int .u8 4] 5)).cell 6
        have d6 : wr.drew.cell? ⟨pb, 6, none⟩ = some (.int .i64 ms) := r6
        go_region_law (first | (refine step_append_mid _ rfl (.tmp 60) (.tmp 61) 45 rfl W0.heap.size 5 i0 _ 1 1 Try.underlying45 hi hz0 hz1 hz2 rfl (by decide) A' 20 c' (u8s L) (by first | (simp [Act.eval]; done) | simp [Act.eval, Act.put]) HD.out (some ⟨wr.heap.size, 0, none⟩) 2 2 [.int .u8 2, .int .u8 4] (by first | (simp [Act.eval]; done) | simp [Act.eval, Act.put]) HS.out (by simp [Value.oneCell']) (by decide) (by decide) HO.out.size ?_; intro A5 c5 w5 hm5 ho5 _; have e6 := D6.out w5 ho5; have M5 := Lib.hid hm5; have O5 := Lib.hid ho5; clear hm5 ho5) | (go_simp; refine (PUT.out _ _ _ M5.out O5.out).mono ?_; rintro e w6 ⟨A6, c6, rfl, hob6⟩))
        all_goals go_wp2_with (fail)
        all_goals go_meet
        all_goals exact ⟨A6, c6, rfl, hob6⟩
      case rest =>
        obtain ⟨A2, c2, rfl, hob⟩ := hcut
        have OB3 := Lib.hid hob
        clear hob
        go_wp2_with (fail)
        go_ret
        exact ⟨A2, c2, rfl, (by have h := OB3.out.mid; rw [HLE.out]; exact h.mono (by have := KS.out.size; omega)), (by rw [HLE.out]; exact OB3.out.bd), Only.then KS.out OB3.out.only⟩
end Go.Proofs.Ytpdhoojjcgohpaa
