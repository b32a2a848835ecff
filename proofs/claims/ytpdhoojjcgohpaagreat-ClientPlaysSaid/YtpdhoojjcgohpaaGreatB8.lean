/- Texts joined: Seg SegH SegE. -/
import Derived.Test.YtpdhoojjcgohpaaGreatB7
import Derived.Test.YtpdhoojjcgohpaaGreatB2
import Derived.Deep.RegionHeld3
import Derived.Deep.RegionLaw
namespace Go.Proofs.YtpdhoojjcgohpaaGreat
set_option maxRecDepth 4000
open Go.RowKit
set_option linter.unusedVariables false

theorem sidx0 (fr to_ sq ak d fl wi : Int) (w : World) : (Instr.index 185 (.agg #[.int .u64 fr, .int .i64 2, .int .u64 to_, .int .i64 2, .int .u64 sq, .int .i64 4, .int .u64 ak, .int .i64 4, .int .u64 d, .int .i64 1, .int .u64 fl, .int .i64 1, .int .u64 wi, .int .i64 2, .int .u64 0, .int .i64 4]) (.int .i64 0)).run Tryz.prog w = .ok (.agg #[.int .u64 fr, .int .i64 2]) w := by
  simp [Instr.index, run_underlying Tryz.underlying185, asIntOf, go_sem]
theorem sidx1 (fr to_ sq ak d fl wi : Int) (w : World) : (Instr.index 185 (.agg #[.int .u64 fr, .int .i64 2, .int .u64 to_, .int .i64 2, .int .u64 sq, .int .i64 4, .int .u64 ak, .int .i64 4, .int .u64 d, .int .i64 1, .int .u64 fl, .int .i64 1, .int .u64 wi, .int .i64 2, .int .u64 0, .int .i64 4]) (.int .i64 1)).run Tryz.prog w = .ok (.agg #[.int .u64 to_, .int .i64 2]) w := by
  simp [Instr.index, run_underlying Tryz.underlying185, asIntOf, go_sem]
theorem sidx2 (fr to_ sq ak d fl wi : Int) (w : World) : (Instr.index 185 (.agg #[.int .u64 fr, .int .i64 2, .int .u64 to_, .int .i64 2, .int .u64 sq, .int .i64 4, .int .u64 ak, .int .i64 4, .int .u64 d, .int .i64 1, .int .u64 fl, .int .i64 1, .int .u64 wi, .int .i64 2, .int .u64 0, .int .i64 4]) (.int .i64 2)).run Tryz.prog w = .ok (.agg #[.int .u64 sq, .int .i64 4]) w := by
  simp [Instr.index, run_underlying Tryz.underlying185, asIntOf, go_sem]
theorem sidx3 (fr to_ sq ak d fl wi : Int) (w : World) : (Instr.index 185 (.agg #[.int .u64 fr, .int .i64 2, .int .u64 to_, .int .i64 2, .int .u64 sq, .int .i64 4, .int .u64 ak, .int .i64 4, .int .u64 d, .int .i64 1, .int .u64 fl, .int .i64 1, .int .u64 wi, .int .i64 2, .int .u64 0, .int .i64 4]) (.int .i64 3)).run Tryz.prog w = .ok (.agg #[.int .u64 ak, .int .i64 4]) w := by
  simp [Instr.index, run_underlying Tryz.underlying185, asIntOf, go_sem]
theorem sidx4 (fr to_ sq ak d fl wi : Int) (w : World) : (Instr.index 185 (.agg #[.int .u64 fr, .int .i64 2, .int .u64 to_, .int .i64 2, .int .u64 sq, .int .i64 4, .int .u64 ak, .int .i64 4, .int .u64 d, .int .i64 1, .int .u64 fl, .int .i64 1, .int .u64 wi, .int .i64 2, .int .u64 0, .int .i64 4]) (.int .i64 4)).run Tryz.prog w = .ok (.agg #[.int .u64 d, .int .i64 1]) w := by
  simp [Instr.index, run_underlying Tryz.underlying185, asIntOf, go_sem]
theorem sidx5 (fr to_ sq ak d fl wi : Int) (w : World) : (Instr.index 185 (.agg #[.int .u64 fr, .int .i64 2, .int .u64 to_, .int .i64 2, .int .u64 sq, .int .i64 4, .int .u64 ak, .int .i64 4, .int .u64 d, .int .i64 1, .int .u64 fl, .int .i64 1, .int .u64 wi, .int .i64 2, .int .u64 0, .int .i64 4]) (.int .i64 5)).run Tryz.prog w = .ok (.agg #[.int .u64 fl, .int .i64 1]) w := by
  simp [Instr.index, run_underlying Tryz.underlying185, asIntOf, go_sem]
theorem sidx6 (fr to_ sq ak d fl wi : Int) (w : World) : (Instr.index 185 (.agg #[.int .u64 fr, .int .i64 2, .int .u64 to_, .int .i64 2, .int .u64 sq, .int .i64 4, .int .u64 ak, .int .i64 4, .int .u64 d, .int .i64 1, .int .u64 fl, .int .i64 1, .int .u64 wi, .int .i64 2, .int .u64 0, .int .i64 4]) (.int .i64 6)).run Tryz.prog w = .ok (.agg #[.int .u64 wi, .int .i64 2]) w := by
  simp [Instr.index, run_underlying Tryz.underlying185, asIntOf, go_sem]
theorem sidx7 (fr to_ sq ak d fl wi : Int) (w : World) : (Instr.index 185 (.agg #[.int .u64 fr, .int .i64 2, .int .u64 to_, .int .i64 2, .int .u64 sq, .int .i64 4, .int .u64 ak, .int .i64 4, .int .u64 d, .int .i64 1, .int .u64 fl, .int .i64 1, .int .u64 wi, .int .i64 2, .int .u64 0, .int .i64 4]) (.int .i64 7)).run Tryz.prog w = .ok (.agg #[.int .u64 0, .int .i64 4]) w := by
  simp [Instr.index, run_underlying Tryz.underlying185, asIntOf, go_sem]
set_option maxRecDepth 100000 in
set_option maxHeartbeats 1000000 in
theorem bare_0 (fr to_ sq ak fl wi : Int) (A : Option Addr) (n c : Nat) (w : World) (f0 : 0 ≤ fr) (f1 : fr < 65536) (t0 : 0 ≤ to_) (t1 : to_ < 65536) (q0 : 0 ≤ sq) (q1 : sq < 4294967296) (a0 : 0 ≤ ak) (a1 : ak < 4294967296) (l0 : 0 ≤ fl) (l1 : fl ≤ 63) (w0 : 0 ≤ wi) (w1 : wi < 65536) :
    Calls Tryz.prog 92 #[.agg #[.int .u16 fr, .int .u16 to_, .int .u32 sq, .int .u32 ak, .int .i64 fl, .int .u16 wi, .int .i64 0, .slice A n c]] w fun e w' => ∃ A' c', e = .returned (.slice A' 20 c') ∧ Ob w w' A' 20 c' (catF [(fr, 2), (to_, 2), (sq, 4), (ak, 4), (80, 1), (fl, 1), (wi, 2), (0, 4)]) := by
  obtain ⟨i0, hi, hz0, hz1, hz2⟩ := info_parts infoU8
  have kx0 := fun w => sidx0 fr to_ sq ak 80 fl wi w
  have kx1 := fun w => sidx1 fr to_ sq ak 80 fl wi w
  have kx2 := fun w => sidx2 fr to_ sq ak 80 fl wi w
  have kx3 := fun w => sidx3 fr to_ sq ak 80 fl wi w
  have kx4 := fun w => sidx4 fr to_ sq ak 80 fl wi w
  have kx5 := fun w => sidx5 fr to_ sq ak 80 fl wi w
  have kx6 := fun w => sidx6 fr to_ sq ak 80 fl wi w
  have kx7 := fun w => sidx7 fr to_ sq ak 80 fl wi w
  obtain ⟨pb, hpb⟩ : ∃ x, w.heap.size = x := ⟨_, rfl⟩
  obtain ⟨W0, hW0, s0, z0, o0⟩ := made w _ hpb 72 #[.int .u16 fr, .int .u16 to_, .int .u32 sq, .int .u32 ak, .int .i64 fl, .int .u16 wi, .int .i64 0, .slice A n c]
  have K0 := addB (start w) o0 z0
  have HW0 := Lib.hid hW0
  have HPB := Lib.hid hpb
  have S0 := Lib.hid s0
  obtain ⟨r0, r1, r2, r3, r4, r5, r6, r7⟩ := Blk.c8 K0.out.1
  clear hW0 s0 z0 o0 hpb
  go_enter Tryz.func92, Tryz.ntmps92
  go_upto_region 1 with (fail)
  rw [← HW0.out]
  try rw [HPB.out]
  clear HW0
  go_upto_region 6 with (fail)
  clear r0 r1 r2 r3 r4 r5 r6 r7
  go_loopg [4, 43] 8 (fun gk v i' wr => ∃ (i m : Nat) (A' : Option Addr) (c' : Nat), gk + i = 8 ∧ i' = .int .i64 i ∧ v = .slice A' m c' ∧ m = (catF ([(fr, 2), (to_, 2), (sq, 4), (ak, 4), (80, 1), (fl, 1), (wi, 2), (0, 4)].take i)).length ∧ Ob W0 wr A' m c' (catF ([(fr, 2), (to_, 2), (sq, 4), (ak, 4), (80, 1), (fl, 1), (wi, 2), (0, 4)].take i)))
  case atStart => exact ⟨0, 0, none, 0, by omega, rfl, rfl, rfl, ⟨Mid.nil _ _ _ _, AllB.nil, Only.refl _ W0⟩⟩
  case round =>
    obtain ⟨i, m, A', c', hgk, rfl, rfl, hm, hob⟩ := hrel
    have HGK := Lib.hid hgk
    have OB := Lib.hid hob
    rcases (by omega : i = 0 ∨ i = 1 ∨ i = 2 ∨ i = 3 ∨ i = 4 ∨ i = 5 ∨ i = 6 ∨ i = 7 ∨ i = 8) with rfl | rfl | rfl | rfl | rfl | rfl | rfl | rfl | rfl
    · obtain rfl : m = 0 := hm.trans (by simp [catF])
      have ho2 := (Only.refl (fun _ => False) wr).alloc (.cells #[.int .u64 fr, .int .i64 2] 184)
      have HO2 := Lib.hid ho2
      have BY := Lib.hid (hob.byt.only ho2 (fun _ _ _ h => h))
      clear hgk hob hm ho2
      go_wp2_with (fail)
      refine (put_ok A' 0 c' _ fr 2 _ BY.out (by decide) (by omega) (by omega) (by decide) (by decide) (by show _ < 65536; omega)).mono ?_
      rintro e w2 ⟨A2, c2, rfl, hob⟩
      have OB2 : Hid (Ob W0 w2 A2 2 c2 (catF ([(fr, 2), (to_, 2), (sq, 4), (ak, 4), (80, 1), (fl, 1), (wi, 2), (0, 4)].take 1))) := Lib.hid ⟨by
        have h := hob.mid.mono (Nat.le_trans OB.out.only.size HO2.out.size)
        simpa [catF] using h, by have h := hob.bd; simpa [catF] using h, (OB.out.only.then HO2.out).then hob.only⟩
      clear hob
      go_wp2_with (fail)
      go_roundg 7
      case measure => have := HGK.out; omega
      case rel => exact ⟨1, 2, A2, c2, rfl, rfl, rfl, by simp [catF, lo_len], OB2.out⟩
    · obtain rfl : m = 2 := hm.trans (by simp [catF, lo_len])
      have ho2 := (Only.refl (fun _ => False) wr).alloc (.cells #[.int .u64 to_, .int .i64 2] 184)
      have HO2 := Lib.hid ho2
      have BY := Lib.hid (hob.byt.only ho2 (fun _ _ _ h => h))
      clear hgk hob hm ho2
      go_wp2_with (fail)
      refine (put_ok A' 2 c' _ to_ 2 _ BY.out (by decide) (by omega) (by omega) (by decide) (by decide) (by show _ < 65536; omega)).mono ?_
      rintro e w2 ⟨A2, c2, rfl, hob⟩
      have OB2 : Hid (Ob W0 w2 A2 4 c2 (catF ([(fr, 2), (to_, 2), (sq, 4), (ak, 4), (80, 1), (fl, 1), (wi, 2), (0, 4)].take 2))) := Lib.hid ⟨by
        have h := hob.mid.mono (Nat.le_trans OB.out.only.size HO2.out.size)
        simpa [catF] using h, by have h := hob.bd; simpa [catF] using h, (OB.out.only.then HO2.out).then hob.only⟩
      clear hob
      go_wp2_with (fail)
      go_roundg 6
      case measure => have := HGK.out; omega
      case rel => exact ⟨2, 4, A2, c2, rfl, rfl, rfl, by simp [catF, lo_len], OB2.out⟩
    · obtain rfl : m = 4 := hm.trans (by simp [catF, lo_len])
      have ho2 := (Only.refl (fun _ => False) wr).alloc (.cells #[.int .u64 sq, .int .i64 4] 184)
      have HO2 := Lib.hid ho2
      have BY := Lib.hid (hob.byt.only ho2 (fun _ _ _ h => h))
      clear hgk hob hm ho2
      go_wp2_with (fail)
      refine (put_ok A' 4 c' _ sq 4 _ BY.out (by decide) (by omega) (by omega) (by decide) (by decide) (by show _ < 4294967296; omega)).mono ?_
      rintro e w2 ⟨A2, c2, rfl, hob⟩
      have OB2 : Hid (Ob W0 w2 A2 8 c2 (catF ([(fr, 2), (to_, 2), (sq, 4), (ak, 4), (80, 1), (fl, 1), (wi, 2), (0, 4)].take 3))) := Lib.hid ⟨by
        have h := hob.mid.mono (Nat.le_trans OB.out.only.size HO2.out.size)
        simpa [catF] using h, by have h := hob.bd; simpa [catF] using h, (OB.out.only.then HO2.out).then hob.only⟩
      clear hob
      go_wp2_with (fail)
      go_roundg 5
      case measure => have := HGK.out; omega
      case rel => exact ⟨3, 8, A2, c2, rfl, rfl, rfl, by simp [catF, lo_len], OB2.out⟩
    · obtain rfl : m = 8 := hm.trans (by simp [catF, lo_len])
      have ho2 := (Only.refl (fun _ => False) wr).alloc (.cells #[.int .u64 ak, .int .i64 4] 184)
      have HO2 := Lib.hid ho2
      have BY := Lib.hid (hob.byt.only ho2 (fun _ _ _ h => h))
      clear hgk hob hm ho2
      go_wp2_with (fail)
      refine (put_ok A' 8 c' _ ak 4 _ BY.out (by decide) (by omega) (by omega) (by decide) (by decide) (by show _ < 4294967296; omega)).mono ?_
      rintro e w2 ⟨A2, c2, rfl, hob⟩
      have OB2 : Hid (Ob W0 w2 A2 12 c2 (catF ([(fr, 2), (to_, 2), (sq, 4), (ak, 4), (80, 1), (fl, 1), (wi, 2), (0, 4)].take 4))) := Lib.hid ⟨by
        have h := hob.mid.mono (Nat.le_trans OB.out.only.size HO2.out.size)
        simpa [catF] using h, by have h := hob.bd; simpa [catF] using h, (OB.out.only.then HO2.out).then hob.only⟩
      clear hob
      go_wp2_with (fail)
      go_roundg 4
      case measure => have := HGK.out; omega
      case rel => exact ⟨4, 12, A2, c2, rfl, rfl, rfl, by simp [catF, lo_len], OB2.out⟩
    · obtain rfl : m = 12 := hm.trans (by simp [catF, lo_len])
      have ho2 := (Only.refl (fun _ => False) wr).alloc (.cells #[.int .u64 80, .int .i64 1] 184)
      have HO2 := Lib.hid ho2
      have BY := Lib.hid (hob.byt.only ho2 (fun _ _ _ h => h))
      clear hgk hob hm ho2
      go_wp2_with (fail)
      refine (put_ok A' 12 c' _ 80 1 _ BY.out (by decide) (by omega) (by omega) (by decide) (by decide) (by show _ < 256; omega)).mono ?_
      rintro e w2 ⟨A2, c2, rfl, hob⟩
      have OB2 : Hid (Ob W0 w2 A2 13 c2 (catF ([(fr, 2), (to_, 2), (sq, 4), (ak, 4), (80, 1), (fl, 1), (wi, 2), (0, 4)].take 5))) := Lib.hid ⟨by
        have h := hob.mid.mono (Nat.le_trans OB.out.only.size HO2.out.size)
        simpa [catF] using h, by have h := hob.bd; simpa [catF] using h, (OB.out.only.then HO2.out).then hob.only⟩
      clear hob
      go_wp2_with (fail)
      go_roundg 3
      case measure => have := HGK.out; omega
      case rel => exact ⟨5, 13, A2, c2, rfl, rfl, rfl, by simp [catF, lo_len], OB2.out⟩
    · obtain rfl : m = 13 := hm.trans (by simp [catF, lo_len])
      have ho2 := (Only.refl (fun _ => False) wr).alloc (.cells #[.int .u64 fl, .int .i64 1] 184)
      have HO2 := Lib.hid ho2
      have BY := Lib.hid (hob.byt.only ho2 (fun _ _ _ h => h))
      clear hgk hob hm ho2
      go_wp2_with (fail)
      refine (put_ok A' 13 c' _ fl 1 _ BY.out (by decide) (by omega) (by omega) (by decide) (by decide) (by show _ < 256; omega)).mono ?_
      rintro e w2 ⟨A2, c2, rfl, hob⟩
      have OB2 : Hid (Ob W0 w2 A2 14 c2 (catF ([(fr, 2), (to_, 2), (sq, 4), (ak, 4), (80, 1), (fl, 1), (wi, 2), (0, 4)].take 6))) := Lib.hid ⟨by
        have h := hob.mid.mono (Nat.le_trans OB.out.only.size HO2.out.size)
        simpa [catF] using h, by have h := hob.bd; simpa [catF] using h, (OB.out.only.then HO2.out).then hob.only⟩
      clear hob
      go_wp2_with (fail)
      go_roundg 2
      case measure => have := HGK.out; omega
      case rel => exact ⟨6, 14, A2, c2, rfl, rfl, rfl, by simp [catF, lo_len], OB2.out⟩
    · obtain rfl : m = 14 := hm.trans (by simp [catF, lo_len])
      have ho2 := (Only.refl (fun _ => False) wr).alloc (.cells #[.int .u64 wi, .int .i64 2] 184)
      have HO2 := Lib.hid ho2
      have BY := Lib.hid (hob.byt.only ho2 (fun _ _ _ h => h))
      clear hgk hob hm ho2
      go_wp2_with (fail)
      refine (put_ok A' 14 c' _ wi 2 _ BY.out (by decide) (by omega) (by omega) (by decide) (by decide) (by show _ < 65536; omega)).mono ?_
      rintro e w2 ⟨A2, c2, rfl, hob⟩
      have OB2 : Hid (Ob W0 w2 A2 16 c2 (catF ([(fr, 2), (to_, 2), (sq, 4), (ak, 4), (80, 1), (fl, 1), (wi, 2), (0, 4)].take 7))) := Lib.hid ⟨by
        have h := hob.mid.mono (Nat.le_trans OB.out.only.size HO2.out.size)
        simpa [catF] using h, by have h := hob.bd; simpa [catF] using h, (OB.out.only.then HO2.out).then hob.only⟩
      clear hob
      go_wp2_with (fail)
      go_roundg 1
      case measure => have := HGK.out; omega
      case rel => exact ⟨7, 16, A2, c2, rfl, rfl, rfl, by simp [catF, lo_len], OB2.out⟩
    · obtain rfl : m = 16 := hm.trans (by simp [catF, lo_len])
      have ho2 := (Only.refl (fun _ => False) wr).alloc (.cells #[.int .u64 0, .int .i64 4] 184)
      have HO2 := Lib.hid ho2
      have BY := Lib.hid (hob.byt.only ho2 (fun _ _ _ h => h))
      clear hgk hob hm ho2
      go_wp2_with (fail)
      refine (put_ok A' 16 c' _ 0 4 _ BY.out (by decide) (by omega) (by omega) (by decide) (by decide) (by show _ < 4294967296; omega)).mono ?_
      rintro e w2 ⟨A2, c2, rfl, hob⟩
      have OB2 : Hid (Ob W0 w2 A2 20 c2 (catF ([(fr, 2), (to_, 2), (sq, 4), (ak, 4), (80, 1), (fl, 1), (wi, 2), (0, 4)].take 8))) := Lib.hid ⟨by
        have h := hob.mid.mono (Nat.le_trans OB.out.only.size HO2.out.size)
        simpa [catF] using h, by have h := hob.bd; simpa [catF] using h, (OB.out.only.then HO2.out).then hob.only⟩
      clear hob
      go_wp2_with (fail)
      go_roundg 0
      case measure => have := HGK.out; omega
      case rel => exact ⟨8, 20, A2, c2, rfl, rfl, rfl, by simp [catF, lo_len], OB2.out⟩
    · obtain rfl : m = 20 := hm.trans (by simp [catF, lo_len])
      have KR := stay K0 hob.only
      obtain ⟨r0, r1, r2, r3, r4, r5, r6, r7⟩ := Blk.c8 KR.out.1
      clear hgk hob hm kx0 kx1 kx2 kx3 kx4 kx5 kx6 kx7
      go_wp2_with (fail)
      go_ret
      exact ⟨A', c', rfl, OB.out.mid.mono (by have := S0.out; have := HPB.out; omega), OB.out.bd, KR.out.2.1⟩
set_option maxRecDepth 100000 in
set_option maxHeartbeats 1000000 in
theorem bare_1 (fr to_ sq ak fl wi ms : Int) (A : Option Addr) (n c : Nat) (w : World) (f0 : 0 ≤ fr) (f1 : fr < 65536) (t0 : 0 ≤ to_) (t1 : to_ < 65536) (q0 : 0 ≤ sq) (q1 : sq < 4294967296) (a0 : 0 ≤ ak) (a1 : ak < 4294967296) (l0 : 0 ≤ fl) (l1 : fl ≤ 63) (w0 : 0 ≤ wi) (w1 : wi < 65536) (m0 : 0 < ms) (m1 : ms ≤ 65535) :
    Calls Tryz.prog 92 #[.agg #[.int .u16 fr, .int .u16 to_, .int .u32 sq, .int .u32 ak, .int .i64 fl, .int .u16 wi, .int .i64 ms, .slice A n c]] w fun e w' => ∃ A' c', e = .returned (.slice A' 24 c') ∧ Ob w w' A' 24 c' (catF [(fr, 2), (to_, 2), (sq, 4), (ak, 4), (96, 1), (fl, 1), (wi, 2), (0, 4)] ++ (2 :: 4 :: lo ms 2)) := by
  obtain ⟨i0, hi, hz0, hz1, hz2⟩ := info_parts infoU8
  have kx0 := fun w => sidx0 fr to_ sq ak 96 fl wi w
  have kx1 := fun w => sidx1 fr to_ sq ak 96 fl wi w
  have kx2 := fun w => sidx2 fr to_ sq ak 96 fl wi w
  have kx3 := fun w => sidx3 fr to_ sq ak 96 fl wi w
  have kx4 := fun w => sidx4 fr to_ sq ak 96 fl wi w
  have kx5 := fun w => sidx5 fr to_ sq ak 96 fl wi w
  have kx6 := fun w => sidx6 fr to_ sq ak 96 fl wi w
  have kx7 := fun w => sidx7 fr to_ sq ak 96 fl wi w
  obtain ⟨pb, hpb⟩ : ∃ x, w.heap.size = x := ⟨_, rfl⟩
  obtain ⟨W0, hW0, s0, z0, o0⟩ := made w _ hpb 72 #[.int .u16 fr, .int .u16 to_, .int .u32 sq, .int .u32 ak, .int .i64 fl, .int .u16 wi, .int .i64 ms, .slice A n c]
  have K0 := addB (start w) o0 z0
  have HW0 := Lib.hid hW0
  have HPB := Lib.hid hpb
  have S0 := Lib.hid s0
  obtain ⟨r0, r1, r2, r3, r4, r5, r6, r7⟩ := Blk.c8 K0.out.1
  have hms : (ms != 0) = true := by simp; omega
  have hms2 : (ms == 0) = false := by simp; omega
  clear hW0 s0 z0 o0 hpb
  go_enter Tryz.func92, Tryz.ntmps92
  go_upto_region 1 with (fail)
  rw [← HW0.out]
  try rw [HPB.out]
  clear HW0
  go_upto_region 6 with (fail)
  clear r0 r1 r2 r3 r4 r5 r6 r7
  go_loopg [4, 43] 8 (fun gk v i' wr => ∃ (i m : Nat) (A' : Option Addr) (c' : Nat), gk + i = 8 ∧ i' = .int .i64 i ∧ v = .slice A' m c' ∧ m = (catF ([(fr, 2), (to_, 2), (sq, 4), (ak, 4), (96, 1), (fl, 1), (wi, 2), (0, 4)].take i)).length ∧ Ob W0 wr A' m c' (catF ([(fr, 2), (to_, 2), (sq, 4), (ak, 4), (96, 1), (fl, 1), (wi, 2), (0, 4)].take i)))
  case atStart => exact ⟨0, 0, none, 0, by omega, rfl, rfl, rfl, ⟨Mid.nil _ _ _ _, AllB.nil, Only.refl _ W0⟩⟩
  case round =>
    obtain ⟨i, m, A', c', hgk, rfl, rfl, hm, hob⟩ := hrel
    have HGK := Lib.hid hgk
    have OB := Lib.hid hob
    rcases (by omega : i = 0 ∨ i = 1 ∨ i = 2 ∨ i = 3 ∨ i = 4 ∨ i = 5 ∨ i = 6 ∨ i = 7 ∨ i = 8) with rfl | rfl | rfl | rfl | rfl | rfl | rfl | rfl | rfl
    · obtain rfl : m = 0 := hm.trans (by simp [catF])
      have ho2 := (Only.refl (fun _ => False) wr).alloc (.cells #[.int .u64 fr, .int .i64 2] 184)
      have HO2 := Lib.hid ho2
      have BY := Lib.hid (hob.byt.only ho2 (fun _ _ _ h => h))
      clear hgk hob hm ho2
      go_wp2_with (fail)
      refine (put_ok A' 0 c' _ fr 2 _ BY.out (by decide) (by omega) (by omega) (by decide) (by decide) (by show _ < 65536; omega)).mono ?_
      rintro e w2 ⟨A2, c2, rfl, hob⟩
      have OB2 : Hid (Ob W0 w2 A2 2 c2 (catF ([(fr, 2), (to_, 2), (sq, 4), (ak, 4), (96, 1), (fl, 1), (wi, 2), (0, 4)].take 1))) := Lib.hid ⟨by
        have h := hob.mid.mono (Nat.le_trans OB.out.only.size HO2.out.size)
        simpa [catF] using h, by have h := hob.bd; simpa [catF] using h, (OB.out.only.then HO2.out).then hob.only⟩
      clear hob
      go_wp2_with (fail)
      go_roundg 7
      case measure => have := HGK.out; omega
      case rel => exact ⟨1, 2, A2, c2, rfl, rfl, rfl, by simp [catF, lo_len], OB2.out⟩
    · obtain rfl : m = 2 := hm.trans (by simp [catF, lo_len])
      have ho2 := (Only.refl (fun _ => False) wr).alloc (.cells #[.int .u64 to_, .int .i64 2] 184)
      have HO2 := Lib.hid ho2
      have BY := Lib.hid (hob.byt.only ho2 (fun _ _ _ h => h))
      clear hgk hob hm ho2
      go_wp2_with (fail)
      refine (put_ok A' 2 c' _ to_ 2 _ BY.out (by decide) (by omega) (by omega) (by decide) (by decide) (by show _ < 65536; omega)).mono ?_
      rintro e w2 ⟨A2, c2, rfl, hob⟩
      have OB2 : Hid (Ob W0 w2 A2 4 c2 (catF ([(fr, 2), (to_, 2), (sq, 4), (ak, 4), (96, 1), (fl, 1), (wi, 2), (0, 4)].take 2))) := Lib.hid ⟨by
        have h := hob.mid.mono (Nat.le_trans OB.out.only.size HO2.out.size)
        simpa [catF] using h, by have h := hob.bd; simpa [catF] using h, (OB.out.only.then HO2.out).then hob.only⟩
      clear hob
      go_wp2_with (fail)
      go_roundg 6
      case measure => have := HGK.out; omega
      case rel => exact ⟨2, 4, A2, c2, rfl, rfl, rfl, by simp [catF, lo_len], OB2.out⟩
    · obtain rfl : m = 4 := hm.trans (by simp [catF, lo_len])
      have ho2 := (Only.refl (fun _ => False) wr).alloc (.cells #[.int .u64 sq, .int .i64 4] 184)
      have HO2 := Lib.hid ho2
      have BY := Lib.hid (hob.byt.only ho2 (fun _ _ _ h => h))
      clear hgk hob hm ho2
      go_wp2_with (fail)
      refine (put_ok A' 4 c' _ sq 4 _ BY.out (by decide) (by omega) (by omega) (by decide) (by decide) (by show _ < 4294967296; omega)).mono ?_
      rintro e w2 ⟨A2, c2, rfl, hob⟩
      have OB2 : Hid (Ob W0 w2 A2 8 c2 (catF ([(fr, 2), (to_, 2), (sq, 4), (ak, 4), (96, 1), (fl, 1), (wi, 2), (0, 4)].take 3))) := Lib.hid ⟨by
        have h := hob.mid.mono (Nat.le_trans OB.out.only.size HO2.out.size)
        simpa [catF] using h, by have h := hob.bd; simpa [catF] using h, (OB.out.only.then HO2.out).then hob.only⟩
      clear hob
      go_wp2_with (fail)
      go_roundg 5
      case measure => have := HGK.out; omega
      case rel => exact ⟨3, 8, A2, c2, rfl, rfl, rfl, by simp [catF, lo_len], OB2.out⟩
    · obtain rfl : m = 8 := hm.trans (by simp [catF, lo_len])
      have ho2 := (Only.refl (fun _ => False) wr).alloc (.cells #[.int .u64 ak, .int .i64 4] 184)
      have HO2 := Lib.hid ho2
      have BY := Lib.hid (hob.byt.only ho2 (fun _ _ _ h => h))
      clear hgk hob hm ho2
      go_wp2_with (fail)
      refine (put_ok A' 8 c' _ ak 4 _ BY.out (by decide) (by omega) (by omega) (by decide) (by decide) (by show _ < 4294967296; omega)).mono ?_
      rintro e w2 ⟨A2, c2, rfl, hob⟩
      have OB2 : Hid (Ob W0 w2 A2 12 c2 (catF ([(fr, 2), (to_, 2), (sq, 4), (ak, 4), (96, 1), (fl, 1), (wi, 2), (0, 4)].take 4))) := Lib.hid ⟨by
        have h := hob.mid.mono (Nat.le_trans OB.out.only.size HO2.out.size)
        simpa [catF] using h, by have h := hob.bd; simpa [catF] using h, (OB.out.only.then HO2.out).then hob.only⟩
      clear hob
      go_wp2_with (fail)
      go_roundg 4
      case measure => have := HGK.out; omega
      case rel => exact ⟨4, 12, A2, c2, rfl, rfl, rfl, by simp [catF, lo_len], OB2.out⟩
    · obtain rfl : m = 12 := hm.trans (by simp [catF, lo_len])
      have ho2 := (Only.refl (fun _ => False) wr).alloc (.cells #[.int .u64 96, .int .i64 1] 184)
      have HO2 := Lib.hid ho2
      have BY := Lib.hid (hob.byt.only ho2 (fun _ _ _ h => h))
      clear hgk hob hm ho2
      go_wp2_with (fail)
      refine (put_ok A' 12 c' _ 96 1 _ BY.out (by decide) (by omega) (by omega) (by decide) (by decide) (by show _ < 256; omega)).mono ?_
      rintro e w2 ⟨A2, c2, rfl, hob⟩
      have OB2 : Hid (Ob W0 w2 A2 13 c2 (catF ([(fr, 2), (to_, 2), (sq, 4), (ak, 4), (96, 1), (fl, 1), (wi, 2), (0, 4)].take 5))) := Lib.hid ⟨by
        have h := hob.mid.mono (Nat.le_trans OB.out.only.size HO2.out.size)
        simpa [catF] using h, by have h := hob.bd; simpa [catF] using h, (OB.out.only.then HO2.out).then hob.only⟩
      clear hob
      go_wp2_with (fail)
      go_roundg 3
      case measure => have := HGK.out; omega
      case rel => exact ⟨5, 13, A2, c2, rfl, rfl, rfl, by simp [catF, lo_len], OB2.out⟩
    · obtain rfl : m = 13 := hm.trans (by simp [catF, lo_len])
      have ho2 := (Only.refl (fun _ => False) wr).alloc (.cells #[.int .u64 fl, .int .i64 1] 184)
      have HO2 := Lib.hid ho2
      have BY := Lib.hid (hob.byt.only ho2 (fun _ _ _ h => h))
      clear hgk hob hm ho2
      go_wp2_with (fail)
      refine (put_ok A' 13 c' _ fl 1 _ BY.out (by decide) (by omega) (by omega) (by decide) (by decide) (by show _ < 256; omega)).mono ?_
      rintro e w2 ⟨A2, c2, rfl, hob⟩
      have OB2 : Hid (Ob W0 w2 A2 14 c2 (catF ([(fr, 2), (to_, 2), (sq, 4), (ak, 4), (96, 1), (fl, 1), (wi, 2), (0, 4)].take 6))) := Lib.hid ⟨by
        have h := hob.mid.mono (Nat.le_trans OB.out.only.size HO2.out.size)
        simpa [catF] using h, by have h := hob.bd; simpa [catF] using h, (OB.out.only.then HO2.out).then hob.only⟩
      clear hob
      go_wp2_with (fail)
      go_roundg 2
      case measure => have := HGK.out; omega
      case rel => exact ⟨6, 14, A2, c2, rfl, rfl, rfl, by simp [catF, lo_len], OB2.out⟩
    · obtain rfl : m = 14 := hm.trans (by simp [catF, lo_len])
      have ho2 := (Only.refl (fun _ => False) wr).alloc (.cells #[.int .u64 wi, .int .i64 2] 184)
      have HO2 := Lib.hid ho2
      have BY := Lib.hid (hob.byt.only ho2 (fun _ _ _ h => h))
      clear hgk hob hm ho2
      go_wp2_with (fail)
      refine (put_ok A' 14 c' _ wi 2 _ BY.out (by decide) (by omega) (by omega) (by decide) (by decide) (by show _ < 65536; omega)).mono ?_
      rintro e w2 ⟨A2, c2, rfl, hob⟩
      have OB2 : Hid (Ob W0 w2 A2 16 c2 (catF ([(fr, 2), (to_, 2), (sq, 4), (ak, 4), (96, 1), (fl, 1), (wi, 2), (0, 4)].take 7))) := Lib.hid ⟨by
        have h := hob.mid.mono (Nat.le_trans OB.out.only.size HO2.out.size)
        simpa [catF] using h, by have h := hob.bd; simpa [catF] using h, (OB.out.only.then HO2.out).then hob.only⟩
      clear hob
      go_wp2_with (fail)
      go_roundg 1
      case measure => have := HGK.out; omega
      case rel => exact ⟨7, 16, A2, c2, rfl, rfl, rfl, by simp [catF, lo_len], OB2.out⟩
    · obtain rfl : m = 16 := hm.trans (by simp [catF, lo_len])
      have ho2 := (Only.refl (fun _ => False) wr).alloc (.cells #[.int .u64 0, .int .i64 4] 184)
      have HO2 := Lib.hid ho2
      have BY := Lib.hid (hob.byt.only ho2 (fun _ _ _ h => h))
      clear hgk hob hm ho2
      go_wp2_with (fail)
      refine (put_ok A' 16 c' _ 0 4 _ BY.out (by decide) (by omega) (by omega) (by decide) (by decide) (by show _ < 4294967296; omega)).mono ?_
      rintro e w2 ⟨A2, c2, rfl, hob⟩
      have OB2 : Hid (Ob W0 w2 A2 20 c2 (catF ([(fr, 2), (to_, 2), (sq, 4), (ak, 4), (96, 1), (fl, 1), (wi, 2), (0, 4)].take 8))) := Lib.hid ⟨by
        have h := hob.mid.mono (Nat.le_trans OB.out.only.size HO2.out.size)
        simpa [catF] using h, by have h := hob.bd; simpa [catF] using h, (OB.out.only.then HO2.out).then hob.only⟩
      clear hob
      go_wp2_with (fail)
      go_roundg 0
      case measure => have := HGK.out; omega
      case rel => exact ⟨8, 20, A2, c2, rfl, rfl, rfl, by simp [catF, lo_len], OB2.out⟩
    · obtain rfl : m = 20 := hm.trans (by simp [catF, lo_len])
      have KR := stay K0 hob.only
      obtain ⟨r0, r1, r2, r3, r4, r5, r6, r7⟩ := Blk.c8 KR.out.1
      clear hgk hob hm kx0 kx1 kx2 kx3 kx4 kx5 kx6 kx7
      have KS : Hid (Only (fun _ => False) w W0) := Lib.hid K0.out.2.1
      have OBm := Lib.hid (show Ob W0 wr A' 20 c' (catF [(fr, 2), (to_, 2), (sq, 4), (ak, 4), (96, 1), (fl, 1), (wi, 2), (0, 4)]) from OB.out)
      have LBD := Lib.hid (catF_bd [(fr, 2), (to_, 2), (sq, 4), (ak, 4), (96, 1), (fl, 1), (wi, 2), (0, 4)])
      generalize hL : catF [(fr, 2), (to_, 2), (sq, 4), (ak, 4), (96, 1), (fl, 1), (wi, 2), (0, 4)] = L at *
      have HLE := Lib.hid hL
      clear hL
      go_upto_region 11 with (fail)
      go_cut [4] (fun v wc => ∃ A2 c2, v = .slice A2 24 c2 ∧ Ob W0 wc A2 24 c2 (L ++ (2 :: 4 :: lo ms 2)))
      case first =>
        have HD : Hid (Mid (wr.drew.alloc (.cells #[.int .u8 2, .int .u8 4] 5)) W0.heap.size 5 1 A' 20 c' (u8s L)) := Lib.hid ((OBm.out.mid.drew).alloc _)
        have HS : Hid (Sl (wr.drew.alloc (.cells #[.int .u8 2, .int .u8 4] 5)) 1 (some ⟨wr.heap.size, 0, none⟩) 2 [.int .u8 2, .int .u8 4]) := Lib.hid (Sl.of_blk (Blk.new wr.drew 5 #[.int .u8 2, .int .u8 4]) rfl)
        have HO : Hid (Only (fun _ => False) W0 (wr.drew.alloc (.cells #[.int .u8 2, .int .u8 4] 5))) := Lib.hid (OBm.out.only.drew.alloc _)
        have D6 : Hid (∀ w5, Only (fun k => k + 1 = bk A') (wr.drew.alloc (.cells #[.int .u8 2, .int .u8 4] 5)) w5 → w5.cell? ⟨pb, 6, none⟩ = some (.int .i64 ms)) := Lib.hid (fun w5 ho => by
          have h1 := (KR.out.1 : Blk wr pb 72 _)
          have h2 := (h1.drew.alloc (.cells #[.int .u8 2, .int .u8 4] 5)).only ho (fun e => by
            have h3 := OBm.out.mid.lo (by omega)
            have h4 := S0.out
            omega)
          exact h2.cell 6)
        have PUT : Hid (∀ A5 c5 w5, Mid w5 W0.heap.size 5 1 A5 22 c5 (u8s L ++ [.int .u8 2, .int .u8 4]) → Only (fun k => k + 1 = bk A') (wr.drew.alloc (.cells #[.int .u8 2, .int .u8 4] 5)) w5 →
            Calls Tryz.prog 97 #[.slice A5 22 c5, .int .u64 ms, .int .i64 2] w5 fun e w' => ∃ A6 c6, e = .returned (.tuple #[.slice A6 24 c6, .int .i64 0]) ∧ Ob W0 w' A6 24 c6 (L ++ (2 :: 4 :: lo ms 2))) := Lib.hid (fun A5 c5 w5 hm ho => by
          have e1 : u8s L ++ [.int .u8 2, .int .u8 4] = u8s (L ++ [2, 4]) := by simp [u8s]
          rw [e1] at hm
          have hb : AllB (L ++ [2, 4]) := LBD.out.app (AllB.of_mem (by intro x hx; simp at hx; omega))
          have h5 : Only (fun _ => False) W0 w5 := HO.out.trans ho (fun k hk e => by have := OBm.out.mid.lo (by omega); omega)
          refine (put_ok A5 22 c5 _ ms 2 _ (hm.sl.to_byt hb) (by decide) (by omega) (by omega) (by decide) (by decide) (by show ms < 65536; omega)).mono ?_
          rintro e w6 ⟨A6, c6, rfl, hob⟩
          have e2 : L ++ [2, 4] ++ lo ms 2 = L ++ (2 :: 4 :: lo ms 2) := by simp
          rw [e2] at hob
          exact ⟨A6, c6, rfl, hob.mid.mono h5.size, hob.bd, h5.then hob.only⟩)
        have kwm : IntKind.u64.wrap ms = ms := IntWalk.u64_in _ (by omega)
        have d8 : (wr.alloc (.cells #[.int .u8 2, .int .u8 4] 5)).cell? ⟨pb, 6, none⟩ = some (.int .i64 ms) := ((KR.out.1 : Blk wr pb 72 _).alloc (.cells #[.int .u8 2, .int .u8 4] 5)).cell 6
        have d7 : (wr.drew.alloc (.cells #[.int .u8 2, .int .u8 4] 5)).cell? ⟨pb, 6, none⟩ = some (.int .i64 ms) := ((KR.out.1 : Blk wr pb 72 _).drew.alloc (.cells #[.int .u8 2, .int .u8 4] 5)).cell 6
        have d6 : wr.drew.cell? ⟨pb, 6, none⟩ = some (.int .i64 ms) := r6
        go_region_law (first | (refine step_append_mid _ rfl (.tmp 60) (.tmp 61) 48 rfl W0.heap.size 5 i0 _ 1 1 Tryz.underlying48 hi hz0 hz1 hz2 rfl (by decide) A' 20 c' (u8s L) (by first | (simp [Act.eval]; done) | simp [Act.eval, Act.put]) HD.out (some ⟨wr.heap.size, 0, none⟩) 2 2 [.int .u8 2, .int .u8 4] (by first | (simp [Act.eval]; done) | simp [Act.eval, Act.put]) HS.out (by simp [Value.oneCell']) (by decide) (by decide) HO.out.size ?_; intro A5 c5 w5 hm5 ho5 _; have e6 := D6.out w5 ho5; have M5 := Lib.hid hm5; have O5 := Lib.hid ho5; clear hm5 ho5) | (go_simp; refine (PUT.out _ _ _ M5.out O5.out).mono ?_; rintro e w6 ⟨A6, c6, rfl, hob6⟩))
        all_goals go_wp2_with (fail)
        all_goals go_meet
        all_goals exact ⟨A6, c6, rfl, hob6⟩
      case rest =>
        obtain ⟨A2, c2, rfl, hob⟩ := hcut
        have OB3 := Lib.hid hob
        clear hob
        go_wp2_with (fail)
        go_ret
        exact ⟨A2, c2, rfl, (by have h := OB3.out.mid; rw [HLE.out]; exact h.mono (by have := KS.out.size; omega)), (by rw [HLE.out]; exact OB3.out.bd), Only.then KS.out OB3.out.only⟩
end Go.Proofs.YtpdhoojjcgohpaaGreat

namespace Go.Proofs.YtpdhoojjcgohpaaGreat
set_option maxRecDepth 4000
open Go.RowKit
set_option linter.unusedVariables false

theorem bare_any (s : Sg) (A : Option Addr) (n c : Nat) (w : World) (h : SgB s) (ok : sgOk s) :
    Calls Tryz.prog 92 #[sgv s (.slice A n c)] w fun e w' => ∃ A' c', e = .returned (.slice A' (hsz s) c') ∧ Ob w w' A' (hsz s) c' (bareL s) := by
  obtain ⟨fr, to_, sq, ak, fl, wi, ms⟩ := s
  obtain ⟨⟨l0, l1⟩, m0, m1⟩ := ok
  obtain ⟨f0, f1, t0, t1, q0, q1, a0, a1, _, w0, w1, _⟩ := h
  by_cases hm : ms = 0
  · have hm' : ms = 0 := hm
    subst hm'
    exact bare_0 fr to_ sq ak fl wi A n c w f0 f1 t0 t1 q0 q1 a0 a1 l0 l1 w0 w1
  · have e1 : hsz ⟨fr, to_, sq, ak, fl, wi, ms⟩ = 24 := if_neg hm
    have e2 : bareL ⟨fr, to_, sq, ak, fl, wi, ms⟩ = catF (segF 96 ⟨fr, to_, sq, ak, fl, wi, ms⟩) ++ (2 :: 4 :: lo ms 2) := if_neg hm
    rw [e1, e2]
    have m0' : 0 ≤ ms := m0
    exact bare_1 fr to_ sq ak fl wi ms A n c w f0 f1 t0 t1 q0 q1 a0 a1 l0 l1 w0 w1 (by have : ms ≠ 0 := hm; omega) m1

/-- what a head sums to, with data of such a part -/
def hdP (s : Sg) (src dst n c : Int) : Int := ev (psB src dst 6 (hsz s + n)) + ev (bareL s) + c
def hdQ (s : Sg) (src dst n d : Int) : Int := od (psB src dst 6 (hsz s + n)) + od (bareL s) + d
def hdS (s : Sg) (src dst n c d : Int) : Int := 65535 - fold16 (hdP s src dst n c * 256 + hdQ s src dst n d)
def hdL (s : Sg) (src dst n c d : Int) : List Int := ((bareL s).set 16 (hdS s src dst n c d / 256)).set 17 (hdS s src dst n c d % 256)
theorem psB_bd (src dst pr n : Int) : AllB (psB src dst pr n) := bytesW_bd _
theorem psB_len (src dst pr n : Int) : (psB src dst pr n).length = 12 := by unfold psB; rw [bytesW_len]; rfl
theorem hsz_cases (s : Sg) : hsz s = 20 ∨ hsz s = 24 := by unfold hsz; split <;> simp
theorem hd_sums (s : Sg) (src dst n : Int) : (0 ≤ ev (psB src dst 6 (hsz s + n)) ∧ ev (psB src dst 6 (hsz s + n)) ≤ 3060) ∧ (0 ≤ od (psB src dst 6 (hsz s + n)) ∧ od (psB src dst 6 (hsz s + n)) ≤ 3060) ∧ (0 ≤ ev (bareL s) ∧ ev (bareL s) ≤ 6120) ∧ (0 ≤ od (bareL s) ∧ od (bareL s) ≤ 6120) := by
  have h1 := eo_bd (psB src dst 6 (hsz s + n)) (psB_bd _ _ _ _).mem
  have h2 := eo_bd (bareL s) (bareL_bd s).mem
  rw [psB_len] at h1
  rw [bareL_len] at h2
  rcases hsz_cases s with h | h <;> rw [h] at h2 <;> omega
theorem hdS_bd (s : Sg) {src dst n c d : Int} (hc : 0 ≤ c) (hd : 0 ≤ d) : 0 ≤ hdS s src dst n c d ∧ hdS s src dst n c d ≤ 65535 := by
  have h1 := hd_sums s src dst n
  have h2 : 0 ≤ hdP s src dst n c * 256 + hdQ s src dst n d := by unfold hdP hdQ; omega
  have h3 := fold16_bd h2
  unfold hdS
  omega
theorem hdL_len (s : Sg) (src dst n c d : Int) : (hdL s src dst n c d).length = hsz s := by unfold hdL; rw [List.length_set, List.length_set, bareL_len]
theorem hdL_bd (s : Sg) {src dst n c d : Int} (hc : 0 ≤ c) (hd : 0 ≤ d) : AllB (hdL s src dst n c d) := by
  have := hdS_bd s (src := src) (dst := dst) (n := n) hc hd
  exact ((bareL_bd s).set 16 (by omega)).set 17 (by omega)

set_option maxRecDepth 100000 in
set_option maxHeartbeats 1000000 in
theorem shead_ok (s : Sg) (A : Option Addr) (m k : Nat) (src dst c d n : Int) (w : World) (h : SgB s) (ok : sgOk s) (s0 : 0 ≤ src) (s1 : src < 4294967296) (d0 : 0 ≤ dst) (d1 : dst < 4294967296)
    (c0 : 0 ≤ c) (c1 : c ≤ 1073741824) (e0 : 0 ≤ d) (e1 : d ≤ 1073741824) (n0 : 0 ≤ n) (n1 : n ≤ 900) :
    Calls Tryz.prog 72 #[sgv s (.slice A m k), .int .u32 src, .int .u32 dst, .complex .f64 (fb c) (fb d), .int .i64 n] w fun e w' => ∃ A' c', e = .returned (.tuple #[.slice A' (hsz s) c', .int .i64 0]) ∧ Ob w w' A' (hsz s) c' (hdL s src dst n c d) := by
  have hs := hd_sums s src dst n
  have hsb := hdS_bd s (src := src) (dst := dst) (n := n) c0 e0
  have hcs := hsz_cases s
  have hL : hdL s src dst n c d = ((bareL s).set 16 (hdS s src dst n c d / 256)).set 17 (hdS s src dst n c d % 256) := rfl
  have hLb := hdL_bd s (src := src) (dst := dst) (n := n) c0 e0
  have hll := bareL_len s
  have hbd := bareL_bd s
  have BA := Lib.hid (fun w => bare_any s A m k w h ok)
  have PS := Lib.hid (fun w => pseudo_any src dst 6 (hsz s + n) w s0 s1 d0 d1 (by decide) (by decide) (by omega))
  have PA := Lib.hid (fun A' c' w hb => part_any A' (hsz s) c' (bareL s) w hb (by omega))
  have hadd := fun t w => csum_fb (a := ev (psB src dst 6 (hsz s + n))) (b := od (psB src dst 6 (hsz s + n))) (c := ev (bareL s)) (d := od (bareL s)) (by omega) (by omega) (by omega) (by omega) (by omega) (by omega) t w
  have mk1 : ∀ x : Int, 0 ≤ x → x ≤ 1099511627776 → may1 x = true := fun x a b => decide_eq_true ⟨a, b⟩
  have JO := Lib.hid (fun w => join_go (ev (psB src dst 6 (hsz s + n)) + ev (bareL s)) (od (psB src dst 6 (hsz s + n)) + od (bareL s)) c d (hsz s) (hdP s src dst n c) (hdQ s src dst n d) (mk1 _ (by omega) (by omega)) (mk1 _ (by omega) (by omega)) (mk1 _ (by omega) (by omega)) (mk1 _ (by omega) (by omega)) (by omega)
    (by rw [if_neg (by omega)]; rfl) (by rw [if_neg (by omega)]; rfl) w)
  have hP : 0 ≤ hdP s src dst n c ∧ hdP s src dst n c ≤ 1099511627776 := by unfold hdP; omega
  have hQ : 0 ≤ hdQ s src dst n d ∧ hdQ s src dst n d ≤ 1099511627776 := by unfold hdQ; omega
  have e5 : (may1 (hdP s src dst n c) && may1 (hdQ s src dst n d)) = true := by rw [mk1 _ hP.1 hP.2, mk1 _ hQ.1 hQ.2]; rfl
  simp only [e5, if_true] at JO
  have SU : Hid (∀ w, Calls Tryz.prog 94 #[.complex .f64 (fb (hdP s src dst n c)) (fb (hdQ s src dst n d))] w fun e w' => e = .returned (.tuple #[.int .u16 (hdS s src dst n c d), .int .i64 0]) ∧ w = w') := Lib.hid (fun w => sum_ok _ _ hP hQ w)
  clear mk1 hP hQ e5 hs
  generalize fb (ev (psB src dst 6 (hsz s + n)) + ev (bareL s)) = fx at *
  generalize fb (od (psB src dst 6 (hsz s + n)) + od (bareL s)) = fy at *
  generalize fb (ev (psB src dst 6 (hsz s + n))) = fp at *
  generalize fb (od (psB src dst 6 (hsz s + n))) = fq at *
  generalize fb (ev (bareL s)) = fu at *
  generalize fb (od (bareL s)) = fv at *
  generalize fb (hdP s src dst n c) = fP at *
  generalize fb (hdQ s src dst n d) = fQ at *
  generalize fb c = fc at *
  generalize fb d = fd at *
  generalize hdL s src dst n c d = HL at *
  generalize hdS s src dst n c d = S at *
  generalize bareL s = L at *
  generalize hsz s = hz at *
  obtain ⟨fr, to_, sq, ak, fl, wi, ms⟩ := s
  obtain ⟨⟨l0, l1⟩, m0, m1⟩ := ok
  simp only at l0 l1 m0 m1
  unfold sgv at BA ⊢
  simp only at BA ⊢
  have HLE := Lib.hid hL
  have HLB := Lib.hid hLb
  have HLL := Lib.hid hll
  have HBD := Lib.hid hbd
  obtain ⟨pb, hpb⟩ : ∃ x, w.heap.size = x := ⟨_, rfl⟩
  obtain ⟨W0, hW0, z0, q0, o0⟩ := made w _ hpb 72 #[.int .u16 fr, .int .u16 to_, .int .u32 sq, .int .u32 ak, .int .i64 fl, .int .u16 wi, .int .i64 ms, .slice A m k]
  have K0 := addB (start w) o0 q0
  have HW0 := Lib.hid hW0
  have HPB := Lib.hid hpb
  have Z0 := Lib.hid z0
  have ORD : Hid (w.heap.size ≤ W0.heap.size) := Lib.hid (by omega)
  clear hW0 z0 q0 o0 hpb hL hLb hll hbd h
  obtain ⟨r0, r1, r2, r3, r4, r5, r6, r7⟩ := Blk.c8 K0.out.1
  go_enter Tryz.func72, Tryz.ntmps72
  go_upto_region 1 with (fail)
  rw [← HW0.out]
  try rw [HPB.out]
  clear HW0
  go_wp2_with (fail)
  refine (BA.out _).mono ?_
  rintro e w1 ⟨A1, k1, rfl, hob⟩
  have OB := Lib.hid hob
  have BY := Lib.hid hob.byt
  have K1 := stay K0 hob.only
  clear hob BA K0 r0 r1 r2 r3 r4 r5 r6 r7
  go_wp2_with (fail)
  refine (PA.out _ _ _ BY.out).mono ?_
  rintro e w' ⟨rfl, rfl⟩
  clear PA
  go_wp2_with (fail)
  refine (PS.out _).mono ?_
  rintro e w2 ⟨rfl, ho⟩
  have K2 := stay K1 ho
  have M2 := Lib.hid (OB.out.mid.keep ho)
  have B2 := Lib.hid (BY.out.only ho (fun _ _ _ h => h))
  have O2 := Lib.hid (OB.out.only.then ho)
  clear ho PS BY OB K1
  go_wp2_with (fail)
  refine (JO.out _).mono ?_
  rintro e w' ⟨rfl, rfl⟩
  clear JO hadd
  go_wp2_with (fail)
  refine (SU.out _).mono ?_
  rintro e w' ⟨rfl, rfl⟩
  clear SU
  obtain ⟨b, off, rfl, hfr, hce⟩ := M2.out.at_ (by have := M2.out.le; omega)
  have f2 := (hfr 16 (by have := M2.out.le; omega)).2
  have f3 := (hfr 17 (by have := M2.out.le; omega)).2
  have e2 := B2.out.at_ (by omega)
  obtain ⟨b', off', eA, hcc⟩ := e2
  simp only [Option.some.injEq, Addr.mk.injEq, and_true] at eA
  obtain ⟨rfl, rfl⟩ := eA
  have e2 := hcc 16 (by omega)
  have e3 := hcc 17 (by omega)
  have kw1 : IntKind.u8.wrap (S / 256) = S / 256 := IntWalk.u8_in _ (by omega)
  have hzi : (17 : Int) < hz := by omega
  clear hfr hce hcc
  go_wp2_with (fail)
  go_ret2
  have m2 := (M2.out.set_ 16 (.int .u8 (S / 256))).set_ 17 (.int .u8 (S % 256))
  have e5 : ((u8s L).set 16 (.int .u8 (S / 256))).set 17 (.int .u8 (S % 256)) = u8s HL := by rw [HLE.out]; simp [u8s, List.map_set]
  rw [e5] at m2
  refine ⟨_, k1, rfl, m2.mono ORD.out, HLB.out, ?_⟩
  have hlo := M2.out.lo (by simp)
  have hsz := ORD.out
  exact Only.trans (S := fun _ => False) K2.out.2.1 (S' := fun k => k = b) ((only_set w2 b _ _).then (only_set _ b _ _)) (fun k hk e => by simp at hlo; omega)
end Go.Proofs.YtpdhoojjcgohpaaGreat

namespace Go.Proofs.YtpdhoojjcgohpaaGreat
set_option maxRecDepth 4000
open Go.RowKit
set_option linter.unusedVariables false

set_option maxRecDepth 100000 in
set_option maxHeartbeats 1000000 in
theorem shead_arg (s : Sg) (A : Option Addr) (m k : Nat) (src dst n : Int) (P : Value) (w : World) (h : SgB s) (ok : ¬ sgOk s) :
    Calls Tryz.prog 72 #[sgv s (.slice A m k), .int .u32 src, .int .u32 dst, P, .int .i64 n] w fun e w' => e = .returned (.tuple #[.slice none 0 0, .int .i64 1]) ∧ Only (fun _ => False) w w' := by
  obtain ⟨fr, to_, sq, ak, fl, wi, ms⟩ := s
  unfold sgv
  have hc : fl < 0 ∨ (¬ fl < 0 ∧ 63 < fl) ∨ (¬ fl < 0 ∧ ¬ 63 < fl ∧ ms < 0) ∨ (¬ fl < 0 ∧ ¬ 63 < fl ∧ ¬ ms < 0 ∧ 65535 < ms) := by
    unfold sgOk at ok; simp only at ok; omega
  obtain ⟨pb, hpb⟩ : ∃ x, w.heap.size = x := ⟨_, rfl⟩
  obtain ⟨W0, hW0, z0, q0, o0⟩ := made w _ hpb 72 #[.int .u16 fr, .int .u16 to_, .int .u32 sq, .int .u32 ak, .int .i64 fl, .int .u16 wi, .int .i64 ms, .slice A m k]
  have K0 := addB (start w) o0 q0
  have HW0 := Lib.hid hW0
  have HPB := Lib.hid hpb
  clear hW0 z0 q0 o0 hpb h ok
  obtain ⟨r0, r1, r2, r3, r4, r5, r6, r7⟩ := Blk.c8 K0.out.1
  rcases hc with h1 | ⟨h1, h2⟩ | ⟨h1, h2, h3⟩ | ⟨h1, h2, h3, h4⟩
  all_goals
    go_enter Tryz.func72, Tryz.ntmps72
    go_upto_region 1 with (fail)
    rw [← HW0.out]
    try rw [HPB.out]
    clear HW0
    go_wp2_with (fail)
    go_ret2
    exact ⟨rfl, K0.out.2.1⟩
set_option maxRecDepth 100000 in
set_option maxHeartbeats 1000000 in
theorem shead_long (s : Sg) (A : Option Addr) (m k : Nat) (src dst n : Int) (P : Value) (w : World) (h : SgB s) (ok : sgOk s) (hn : n < 0 ∨ 900 < n) :
    Calls Tryz.prog 72 #[sgv s (.slice A m k), .int .u32 src, .int .u32 dst, P, .int .i64 n] w fun e w' => e = .returned (.tuple #[.slice none 0 0, .int .i64 2]) ∧ Only (fun _ => False) w w' := by
  obtain ⟨fr, to_, sq, ak, fl, wi, ms⟩ := s
  obtain ⟨⟨l0, l1⟩, m0, m1⟩ := ok
  simp only at l0 l1 m0 m1
  unfold sgv
  have hc : n < 0 ∨ (¬ n < 0 ∧ 900 < n) := by omega
  obtain ⟨pb, hpb⟩ : ∃ x, w.heap.size = x := ⟨_, rfl⟩
  obtain ⟨W0, hW0, z0, q0, o0⟩ := made w _ hpb 72 #[.int .u16 fr, .int .u16 to_, .int .u32 sq, .int .u32 ak, .int .i64 fl, .int .u16 wi, .int .i64 ms, .slice A m k]
  have K0 := addB (start w) o0 q0
  have HW0 := Lib.hid hW0
  have HPB := Lib.hid hpb
  clear hW0 z0 q0 o0 hpb h hn
  obtain ⟨r0, r1, r2, r3, r4, r5, r6, r7⟩ := Blk.c8 K0.out.1
  rcases hc with h1 | ⟨h1, h2⟩
  all_goals
    go_enter Tryz.func72, Tryz.ntmps72
    go_upto_region 1 with (fail)
    rw [← HW0.out]
    try rw [HPB.out]
    clear HW0
    go_wp2_with (fail)
    go_ret2
    exact ⟨rfl, K0.out.2.1⟩

/-- the bytes of a segment -/
def sgL (s : Sg) (src dst : Int) (cs : List Int) : List Int := hdL s src dst cs.length (ev cs) (od cs) ++ cs
def sgE (s : Sg) (n : Int) : Int := if sgOk s then (if n ≤ 900 then 0 else 2) else 1
theorem sgL_len (s : Sg) (src dst : Int) (cs : List Int) : (sgL s src dst cs).length = hsz s + cs.length := by unfold sgL; rw [List.length_append, hdL_len]
theorem sgL_bd (s : Sg) {src dst : Int} {cs : List Int} (h : AllB cs) : AllB (sgL s src dst cs) := by
  have h1 := eo_bd cs h.mem
  exact (hdL_bd s h1.1 h1.2.1).app h
/-- what Bytes answers -/
def SBPost (w : World) (s : Sg) (L : List Int) (n : Nat) (e : Ending) (w' : World) : Prop :=
  ((sgOk s ∧ n ≤ 900) ∧ ∃ A c, e = .returned (.tuple #[.slice A (hsz s + n) c, .int .i64 0]) ∧ Ob w w' A (hsz s + n) c L) ∨
  (¬ (sgOk s ∧ n ≤ 900) ∧ e = .returned (.tuple #[.slice none 0 0, .int .i64 (sgE s n)]) ∧ Only (fun _ => False) w w')

end Go.Proofs.YtpdhoojjcgohpaaGreat
