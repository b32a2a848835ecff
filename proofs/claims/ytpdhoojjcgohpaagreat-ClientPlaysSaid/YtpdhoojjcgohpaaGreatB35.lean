/- Texts joined: CliW SegB CliX ClrW ClsA. -/
import Derived.Test.YtpdhoojjcgohpaaGreatB12
import Derived.Test.YtpdhoojjcgohpaaGreatB6
import Derived.Test.YtpdhoojjcgohpaaGreatB4
import Derived.Test.YtpdhoojjcgohpaaGreatB9
import Derived.Test.YtpdhoojjcgohpaaGreatB18
import Derived.Test.YtpdhoojjcgohpaaGreatCliO
import Derived.Test.YtpdhoojjcgohpaaGreatB25
import Derived.Test.YtpdhoojjcgohpaaGreatB33
import Derived.Lib.QuietBelow
namespace Go.Proofs.YtpdhoojjcgohpaaGreat
set_option maxRecDepth 4000
namespace Cl
open Go.RowKit
set_option linter.unusedVariables false
set_option linter.unusedSimpArgs false
/-- a config as it comes -/
structure CfR (c : Cf) : Prop where
  m0 : 0 ≤ c.mac
  m1 : c.mac < 18446744073709551616
  i0 : 0 ≤ c.ip
  i1 : c.ip < 4294967296
  n0 : 0 ≤ c.mac2
  n1 : c.mac2 < 18446744073709551616
  j0 : 0 ≤ c.ip2
  j1 : c.ip2 < 4294967296
  p0 : 0 ≤ c.port
  p1 : c.port < 65536
  r0 : 0 ≤ c.port2
  r1 : c.port2 < 65536
  s0 : 0 ≤ c.isn
  s1 : c.isn < 4294967296
  tx : c.text.size ≤ maxLen
theorem CfR.held {c : Cf} (h : CfR c) (ht : c.text.size ≤ 100000) : CfB c.held :=
  ⟨h.m0, h.m1, h.i0, h.i1, h.n0, h.n1, h.j0, h.j1, h.p0, h.p1, h.r0, h.r1, h.s0, h.s1, by show 1 ≤ min (max c.win 1) 65535; omega, by show min (max c.win 1) 65535 ≤ 65535; omega, by show 1 ≤ min (max c.mss 1) 400; omega, by show min (max c.mss 1) 400 ≤ 400; omega, ht⟩
theorem rb {k : IntKind} {n : Int} (hw : (Lit.int k n).wf = true) : k.min ≤ n ∧ n ≤ k.max := by simpa [Lit.wf] using hw
theorem ints : IntKind.u16.min = 0 ∧ IntKind.u16.max = 65535 ∧ IntKind.u32.min = 0 ∧ IntKind.u32.max = 4294967295 ∧ IntKind.i64.min = -9223372036854775808 ∧ IntKind.i64.max = 9223372036854775807 ∧ IntKind.u64.min = 0 ∧ IntKind.u64.max = 18446744073709551615 := by decide
theorem seen_cf {w : World} {v : Value} (s : Seen w 28 v) : ∃ c : Cf, v = .agg (cfv c) ∧ CfR c := by
  obtain ⟨cs, rfl, hr⟩ := s.struct Tryz.underlying28
  obtain ⟨hl, hf⟩ := hr.struct Tryz.underlying28
  have hc : Tryz.prog.cellsOf 28 = 11 := by kernel_rfl
  rw [hc] at hl
  obtain ⟨x0, x1, x2, x3, x4, x5, x6, x7, x8, x9, x10, hx⟩ : ∃ x0 x1 x2 x3 x4 x5 x6 x7 x8 x9 x10, cs.toList = [x0, x1, x2, x3, x4, x5, x6, x7, x8, x9, x10] := by
    match h : cs.toList, hl with
    | [a, b, c, d, e, f, g, k, l, m, n], _ => exact ⟨a, b, c, d, e, f, g, k, l, m, n, rfl⟩
  rw [hx] at hf
  have g0 : Reads w 25 [x0, x1] := hf 0 _ rfl
  have g1 : Reads w 25 [x2, x3] := hf 1 _ rfl
  have f4 : Reads w 26 [x4] := hf 2 _ rfl
  have f5 : Reads w 26 [x5] := hf 3 _ rfl
  have f6 : Reads w 23 [x6] := hf 4 _ rfl
  have f7 : Reads w 3 [x7] := hf 5 _ rfl
  have f8 : Reads w 3 [x8] := hf 6 _ rfl
  have f9 : Reads w 9 [x9] := hf 7 _ rfl
  have f10 : Reads w 4 [x10] := hf 8 _ rfl
  obtain ⟨-, k0⟩ := g0.struct Tryz.underlying25
  obtain ⟨-, k1⟩ := g1.struct Tryz.underlying25
  have f0 : Reads w 22 [x0] := k0 0 _ rfl
  have f1 : Reads w 23 [x1] := k0 1 _ rfl
  have f2 : Reads w 22 [x2] := k1 0 _ rfl
  have f3 : Reads w 23 [x3] := k1 1 _ rfl
  obtain ⟨n0, e0, w0⟩ := f0.int (k := .u64) Tryz.underlying22
  obtain ⟨n1, e1, w1⟩ := f1.int (k := .u32) Tryz.underlying23
  obtain ⟨n2, e2, w2⟩ := f2.int (k := .u64) Tryz.underlying22
  obtain ⟨n3, e3, w3⟩ := f3.int (k := .u32) Tryz.underlying23
  obtain ⟨n4, e4, w4⟩ := f4.int (k := .u16) Tryz.underlying26
  obtain ⟨n5, e5, w5⟩ := f5.int (k := .u16) Tryz.underlying26
  obtain ⟨n6, e6, w6⟩ := f6.int (k := .u32) Tryz.underlying23
  obtain ⟨n7, e7, w7⟩ := f7.int (k := .i64) Tryz.underlying3
  obtain ⟨n8, e8, w8⟩ := f8.int (k := .i64) Tryz.underlying3
  obtain ⟨n9, e9, w9⟩ := f9.str Tryz.underlying9
  obtain ⟨n10, e10⟩ := f10.bool Tryz.underlying4
  simp only [List.cons.injEq, and_true] at e0 e1 e2 e3 e4 e5 e6 e7 e8 e9 e10
  subst e0 e1 e2 e3 e4 e5 e6 e7 e8 e9 e10
  have b0 := rb w0
  have b1 := rb w1
  have b2 := rb w2
  have b3 := rb w3
  have b4 := rb w4
  have b5 := rb w5
  have b6 := rb w6
  obtain ⟨m1, m2, m3, m4, m5, m6, m7, m8⟩ := ints
  refine ⟨⟨n0, n1, n2, n3, n4, n5, n6, n7, n8, n9, n10⟩, ?_, ⟨by show 0 ≤ n0; omega, by show n0 < _; omega, by show 0 ≤ n1; omega, by show n1 < _; omega, by show 0 ≤ n2; omega, by show n2 < _; omega, by show 0 ≤ n3; omega, by show n3 < _; omega, by show 0 ≤ n4; omega, by show n4 < _; omega, by show 0 ≤ n5; omega, by show n5 < _; omega, by show 0 ≤ n6; omega, by show n6 < _; omega, w9⟩⟩
  congr 1
  apply Array.ext'
  rw [hx]; rfl
/-- a call -/
structure Ac where
  k : Int
  s : Sg
  d : ByteArray
  b : ByteArray
def Ac.enc (a : Ac) : List Value := [.int .i64 a.k, .int .u16 a.s.fr, .int .u16 a.s.to_, .int .u32 a.s.sq, .int .u32 a.s.ak, .int .i64 a.s.fl, .int .u16 a.s.wi, .int .i64 a.s.ms, .string a.d, .string a.b]
theorem Ac.enc_len (a : Ac) : a.enc.length = 10 := rfl
structure AcB (a : Ac) : Prop where
  k : i64B a.k
  s : SgB a.s
  d : a.d.size ≤ maxLen
  b : a.b.size ≤ maxLen
theorem reads_ac {w : World} {cs : List Value} (hl : cs.length = 10) (h : Reads w 44 cs) : ∃ a : Ac, cs = a.enc ∧ AcB a := by
  obtain ⟨-, hf⟩ := h.struct Tryz.underlying44
  obtain ⟨x0, x2, x3, x4, x5, x6, x7, x8, x9, x1, hx⟩ : ∃ x0 x1 x2 x3 x4 x5 x6 x7 x8 x9, cs = [x0, x1, x2, x3, x4, x5, x6, x7, x8, x9] := by
    match cs, hl with
    | [a, b, c, d, e, f, g, k, l, m], _ => exact ⟨a, b, c, d, e, f, g, k, l, m, rfl⟩
  subst hx
  have f0 : Reads w 3 [x0] := hf 0 _ rfl
  have f2 : Reads w 42 [x2, x3, x4, x5, x6, x7, x8, x9] := hf 1 _ rfl
  have f1 : Reads w 9 [x1] := hf 2 _ rfl
  obtain ⟨-, hg⟩ := f2.struct Tryz.underlying42
  have g0 : Reads w 26 [x2] := hg 0 _ rfl
  have g1 : Reads w 26 [x3] := hg 1 _ rfl
  have g2 : Reads w 23 [x4] := hg 2 _ rfl
  have g3 : Reads w 23 [x5] := hg 3 _ rfl
  have g4 : Reads w 3 [x6] := hg 4 _ rfl
  have g5 : Reads w 26 [x7] := hg 5 _ rfl
  have g6 : Reads w 3 [x8] := hg 6 _ rfl
  have g7 : Reads w 9 [x9] := hg 7 _ rfl
  obtain ⟨k, e0, w0⟩ := f0.int (k := .i64) Tryz.underlying3
  obtain ⟨n, e1, b1⟩ := f1.str Tryz.underlying9
  obtain ⟨pf, e2, w2⟩ := g0.int (k := .u16) Tryz.underlying26
  obtain ⟨pt, e3, w3⟩ := g1.int (k := .u16) Tryz.underlying26
  obtain ⟨sq, e4, w4⟩ := g2.int (k := .u32) Tryz.underlying23
  obtain ⟨ak, e5, w5⟩ := g3.int (k := .u32) Tryz.underlying23
  obtain ⟨fl, e6, w6⟩ := g4.int (k := .i64) Tryz.underlying3
  obtain ⟨wi, e7, w7⟩ := g5.int (k := .u16) Tryz.underlying26
  obtain ⟨ms, e8, w8⟩ := g6.int (k := .i64) Tryz.underlying3
  obtain ⟨dat, e9, b9⟩ := g7.str Tryz.underlying9
  injection e0 with e0
  injection e1 with e1
  injection e2 with e2
  injection e3 with e3
  injection e4 with e4
  injection e5 with e5
  injection e6 with e6
  injection e7 with e7
  injection e8 with e8
  injection e9 with e9
  subst e0 e1 e2 e3 e4 e5 e6 e7 e8 e9
  have k0 := rb w0
  have k2 := rb w2
  have k3 := rb w3
  have k4 := rb w4
  have k5 := rb w5
  have k6 := rb w6
  have k7 := rb w7
  have k8 := rb w8
  obtain ⟨m1, m2, m3, m4, m5, m6, m7, m8⟩ := ints
  refine ⟨⟨k, ⟨pf, pt, sq, ak, fl, wi, ms⟩, dat, n⟩, rfl, ⟨by show i64B k; unfold i64B; omega, ?_, b9, b1⟩⟩
  constructor <;> simp only [i64B] <;> omega
theorem seen_acts {w : World} {v : Value} (s : Seen w 29 v) : ∃ A c, ∃ l : List Ac, v = .slice A l.length c ∧ l.length ≤ c ∧ c ≤ maxLen ∧ Sl w 10 A l.length (rows Ac.enc l) ∧ ∀ a ∈ l, AcB a :=
  seen_rows s Tryz.underlying29 (by kernel_rfl) (by decide) ⟨0, ⟨0, 0, 0, 0, 0, 0, 0⟩, ByteArray.empty, ByteArray.empty⟩ AcB Ac.enc_len (fun cs hl hr => reads_ac hl hr)
theorem Sl.ac {w : World} {A : Option Addr} {l : List Ac} (h : Sl w 10 A l.length (rows Ac.enc l)) (i : Nat) (hi : i < l.length) :
    ∃ b off, A = some ⟨b, off, none⟩ ∧ b < w.heap.size ∧ ∀ r, r < 10 → w.cell? ⟨b, off + i * 10 + r, none⟩ = (Ac.enc l[i])[r]? := h.elem Ac.enc_len i hi (by decide)
/-- what is looked at -/
def Near (c : Cf) (l : List Ac) : Prop := c.text.size ≤ 3000 ∧ l.length ≤ 120 ∧ ∀ a ∈ l, a.b.size ≤ 2000 ∧ a.d.size ≤ 900
def IsStr (e : Ending) : Prop := ∃ p : ByteArray, e = .returned (.string p) ∧ p.size ≤ 1024
def FarP (c : Cf) (l : List Ac) (e : Ending) : Prop := ∃ b, e = .returned (.bool b) ∧ (b = false → Near c l)
set_option maxRecDepth 100000 in
set_option maxHeartbeats 1000000 in
theorem far_any (c : Cf) (w : World) (A : Option Addr) (cp : Nat) (l : List Ac) (h : Sl w 10 A l.length (rows Ac.enc l)) (hl : l.length ≤ 9223372036854775807) :
    Calls Tryz.prog 5 #[.agg (cfv c), .slice A l.length cp] w fun e w' => FarP c l e ∧ Only (fun _ => False) w w' := by
  obtain ⟨W, hW, sW, hb, ho⟩ := made w _ rfl 28 (cfv c)
  have H := Lib.hid (h.keep ho)
  have HO := Lib.hid ho
  have HW := Lib.hid hW
  have Q := Lib.hid hb
  obtain ⟨pb, hpb⟩ : ∃ x, w.heap.size = x := ⟨_, rfl⟩
  rw [hpb] at Q
  have PB := Lib.hid hpb
  have e7 : W.cell? ⟨pb, 9, none⟩ = some (.string c.text) := Q.out.cell 9
  clear h hW hb ho hpb sW
  by_cases h1 : 3000 < c.text.size
  · have h1' : (3000 : Int) < (c.text.size : Int) := by omega
    unfold cfv at HW ⊢
    go_enter Tryz.func5, Tryz.ntmps5
    go_upto_region 1 with (fail)
    rw [← HW.out]
    try rw [PB.out]
    go_wp2_with (fail)
    go_ret
    exact ⟨⟨_, rfl, fun e => Bool.noConfusion e⟩, HO.out⟩
  by_cases h2 : 120 < l.length
  · have h1' : ¬ (3000 : Int) < (c.text.size : Int) := by omega
    have h2' : (120 : Int) < (l.length : Int) := by omega
    unfold cfv at HW ⊢
    go_enter Tryz.func5, Tryz.ntmps5
    go_upto_region 1 with (fail)
    rw [← HW.out]
    try rw [PB.out]
    go_wp2_with (fail)
    go_ret
    exact ⟨⟨_, rfl, fun e => Bool.noConfusion e⟩, HO.out⟩
  have h1' : ¬ (3000 : Int) < (c.text.size : Int) := by omega
  have h2' : ¬ (120 : Int) < (l.length : Int) := by omega
  have hlb : l.length ≤ 120 := by omega
  have NR := Lib.hid (show c.text.size ≤ 3000 ∧ l.length ≤ 120 by omega)
  unfold cfv at HW ⊢
  go_enter Tryz.func5, Tryz.ntmps5
  go_upto_region 1 with (fail)
  rw [← HW.out]
  try rw [PB.out]
  clear HW
  go_wp2_with (fail)
  go_loopg [5] l.length (fun gk i' wr => ∃ i : Nat, gk + i = l.length ∧ i' = .int .i64 i ∧ wr = W ∧ ∀ j, (hj : j < l.length) → j < i → l[j].b.size ≤ 2000 ∧ l[j].d.size ≤ 900)
  case atStart => exact ⟨0, by omega, rfl, rfl, fun j _ hj => absurd hj (Nat.not_lt_zero _)⟩
  case round =>
    obtain ⟨i, hgk, rfl, hwr, hall⟩ := hrel
    subst hwr
    have HGK := Lib.hid hgk
    have HALL := Lib.hid hall
    clear hgk hall
    by_cases hi : i < l.length
    · obtain ⟨b, off, rfl, -, hc⟩ := Sl.ac H.out i hi
      have e8 : wr.cell? ⟨b, off + i * 10 + 8, none⟩ = some (.string l[i].d) := hc 8 (by decide)
      have e9 : wr.cell? ⟨b, off + i * 10 + 9, none⟩ = some (.string l[i].b) := hc 9 (by decide)
      obtain ⟨a, ha⟩ : ∃ a, l[i] = a := ⟨_, rfl⟩
      rw [ha] at e8 e9
      have HA := Lib.hid ha
      clear hc ha
      have hi2 : (i : Int) < (l.length : Int) := by omega
      by_cases g1 : 2000 < a.b.size
      · have g2 : (2000 : Int) < (a.b.size : Int) := by omega
        go_wp2_with (fail)
        go_ret
        exact ⟨⟨_, rfl, fun e => Bool.noConfusion e⟩, HO.out⟩
      have g2 : ¬ (2000 : Int) < (a.b.size : Int) := by omega
      by_cases g3 : 900 < a.d.size
      · have g4 : (900 : Int) < (a.d.size : Int) := by omega
        go_wp2_with (fail)
        go_ret
        exact ⟨⟨_, rfl, fun e => Bool.noConfusion e⟩, HO.out⟩
      have g4 : ¬ (900 : Int) < (a.d.size : Int) := by omega
      go_wp2_with (fail)
      go_roundg (gk - 1)
      case measure => have := HGK.out; omega
      case rel =>
        refine ⟨i + 1, by have := HGK.out; omega, by go_num, rfl, fun j hj h2 => ?_⟩
        by_cases hji : j = i
        · subst hji; have := HA.out; rw [this]; omega
        · exact HALL.out j hj (by omega)
    · have hi2 : ¬ (i : Int) < (l.length : Int) := by omega
      go_wp2_with (fail)
      go_ret
      refine ⟨⟨_, rfl, fun _ => ⟨NR.out.1, NR.out.2, fun a ha => ?_⟩⟩, HO.out⟩
      obtain ⟨j, hj, rfl⟩ := List.getElem_of_mem ha
      exact HALL.out j hj (by omega)
set_option maxRecDepth 100000 in
set_option maxHeartbeats 1000000 in
theorem cof_any (c : Cf) (w : World) : Calls Tryz.prog 7 #[.agg (cfv c)] w fun e w' => e = .returned (.agg (cfv c)) ∧ Only (fun _ => False) w w' := by
  have h2 : Only (fun _ => False) w ((w.alloc (.cells (cfv c) 28)).alloc (.cells #[.int .u64 0, .int .u32 0, .int .u64 0, .int .u32 0, .int .u16 0, .int .u16 0, .int .u32 0, .int .i64 0, .int .i64 0, .string ⟨#[]⟩, .bool false] 36)) := ((Only.refl _ w).alloc _).alloc _
  unfold cfv
  go_enter Tryz.func7, Tryz.ntmps7
  go_wp2_with (fail)
  exact bodyPost_ret (v := .agg (cfv c)) (by simp [results, Tryz.results7, go_sem, cfv]) rfl ⟨rfl, ((Only.refl _ w).alloc _).alloc _⟩
set_option maxRecDepth 100000 in
set_option maxHeartbeats 1000000 in
theorem packet_any (c : Cf) (s : Sg) (d : ByteArray) (w : World) (hc : CfR c) (hs : SgB s) (hd : d.size ≤ 900) :
    Calls Tryz.prog 11 #[.agg (cfv c), rsgv s d] w fun e w' => IsStr e ∧ Only (fun _ => False) w w' := by
  obtain ⟨mac, ip, mac2, ip2, port, port2, isn, win, mss, text, half⟩ := c
  obtain ⟨fr, to_, sq, ak, fl, wi, ms⟩ := s
  obtain ⟨pb, hpb⟩ : ∃ x, w.heap.size = x := ⟨_, rfl⟩
  obtain ⟨W0, hW0, z0, q0, o0⟩ := made w _ hpb 28 (cfv ⟨mac, ip, mac2, ip2, port, port2, isn, win, mss, text, half⟩)
  obtain ⟨W1, hW1, z1, q1, o1⟩ := made W0 _ z0 42 #[.int .u16 fr, .int .u16 to_, .int .u32 sq, .int .u32 ak, .int .i64 fl, .int .u16 wi, .int .i64 ms, .string d]
  have K0 := addB (start w) o0 q0
  have K0x := stay K0 o1
  have f0 := q1.frozen 0
  have f1 := q1.frozen 1
  obtain ⟨V, hV, qV, oV⟩ := put2 W1 (pb + 1) 42 0 1 _ q1 (.int .u16 port2) (.int .u16 port)
  have K2 := addB (stayB K0x oV (by simp only [FarB, Fact.farB, and_true]; omega)) (Only.refl _ _) (qV.to (cs' := #[.int .u16 port2, .int .u16 port, .int .u32 sq, .int .u32 ak, .int .i64 fl, .int .u16 wi, .int .i64 ms, .string d]) (by simp))
  have HV := Lib.hid hV
  have HW0 := Lib.hid hW0
  have HW1 := Lib.hid hW1
  have PB := Lib.hid hpb
  have Z0 := Lib.hid z0
  have HS : SgB ⟨port2, port, sq, ak, fl, wi, ms⟩ := ⟨hc.r0, hc.r1, hc.p0, hc.p1, hs.q0, hs.q1, hs.a0, hs.a1, hs.l, hs.w0, hs.w1, hs.m⟩
  have RB := Lib.hid (fun w => rsbytes_any ⟨port2, port, sq, ak, fl, wi, ms⟩ d ip2 ip w HS (by omega) hc.j0 hc.j1 hc.i0 hc.i1)
  have SZ : (rsgS ⟨port2, port, sq, ak, fl, wi, ms⟩ ip2 ip d).size ≤ 1000 := by
    unfold rsgS
    split
    · rw [str_size, sgL_len, codes_len]
      have := hsz_cases ⟨port2, port, sq, ak, fl, wi, ms⟩
      omega
    · exact Nat.zero_le _
  have HC := Lib.hid hc
  obtain ⟨x0, x1, x2, x3, x4, x5, x6, x7, x8, x9, x10⟩ : W1.cell? ⟨pb, 0, none⟩ = some (.int .u64 mac) ∧ W1.cell? ⟨pb, 1, none⟩ = some (.int .u32 ip) ∧ W1.cell? ⟨pb, 2, none⟩ = some (.int .u64 mac2) ∧ W1.cell? ⟨pb, 3, none⟩ = some (.int .u32 ip2) ∧ W1.cell? ⟨pb, 4, none⟩ = some (.int .u16 port) ∧ W1.cell? ⟨pb, 5, none⟩ = some (.int .u16 port2) ∧ W1.cell? ⟨pb, 6, none⟩ = some (.int .u32 isn) ∧ W1.cell? ⟨pb, 7, none⟩ = some (.int .i64 win) ∧ W1.cell? ⟨pb, 8, none⟩ = some (.int .i64 mss) ∧ W1.cell? ⟨pb, 9, none⟩ = some (.string text) ∧ W1.cell? ⟨pb, 10, none⟩ = some (.bool half) :=
    ⟨(q0.only o1 (fun h => h)).cell 0, (q0.only o1 (fun h => h)).cell 1, (q0.only o1 (fun h => h)).cell 2, (q0.only o1 (fun h => h)).cell 3, (q0.only o1 (fun h => h)).cell 4, (q0.only o1 (fun h => h)).cell 5, (q0.only o1 (fun h => h)).cell 6, (q0.only o1 (fun h => h)).cell 7, (q0.only o1 (fun h => h)).cell 8, (q0.only o1 (fun h => h)).cell 9, (q0.only o1 (fun h => h)).cell 10⟩
  have y0 := q1.cell 0
  have y1 := q1.cell 1
  unfold rsgv at RB ⊢
  simp only at RB
  generalize rsgS ⟨port2, port, sq, ak, fl, wi, ms⟩ ip2 ip d = p1 at *
  generalize sgE ⟨port2, port, sq, ak, fl, wi, ms⟩ d.size = r1 at *
  have SZ := Lib.hid SZ
  clear hV qV oV q0 q1 o0 o1 z0 z1 hW0 hW1 hpb K0 K0x hs HS hc
  unfold cfv at K2 HW0 ⊢
  simp only at K2 HW0 ⊢
  go_enter Tryz.func11, Tryz.ntmps11
  go_upto_region 1 with (fail)
  rw [← HW0.out]
  try rw [PB.out]
  rw [← HW1.out]
  try rw [Z0.out]
  go_upto_region 3 with (fail)
  rw [← HV.out]
  clear HV x0 x1 x2 x3 x4 x5 x6 x7 x8 x9 x10 y0 y1 f0 f1
  obtain ⟨y0, y1, y2, y3, y4, y5, y6, y7⟩ := Blk.c8 K2.out.1
  have x1 := K2.out.2.1.cell 1
  have x3 := K2.out.2.1.cell 3
  go_wp2_with (fail)
  refine (RB.out V).mono ?_
  rintro e w1 ⟨rfl, ho⟩
  have K3 := stay K2 ho
  clear ho K2 y0 y1 y2 y3 y4 y5 y6 y7 x1 x3 RB
  have x1 := K3.out.2.1.cell 1
  have x3 := K3.out.2.1.cell 3
  have RB := Lib.hid (fun w => irb_any 0 64 6 ip2 ip p1 w ⟨by decide, by decide, by decide, by decide, by decide, by decide, HC.out.j0, HC.out.j1, HC.out.i0, HC.out.i1⟩ (by have := SZ.out; omega))
  have SZ2 : Hid ((rbS 0 64 6 ip2 ip p1).size ≤ 1020) := Lib.hid (by
    have := SZ.out
    unfold rbS
    split
    · rw [ByteArray.size_append, str_size, hB_len]; omega
    · exact Nat.zero_le _)
  unfold pkv at RB
  generalize rbS 0 64 6 ip2 ip p1 = p2 at *
  generalize rhE p1.size = r2 at *
  clear SZ
  go_wp2_with (fail)
  refine (RB.out w1).mono ?_
  rintro e w2 ⟨rfl, ho⟩
  have K4 := stay K3 ho
  clear ho K3 x1 x3 RB
  have x0 := K4.out.2.1.cell 0
  have x2 := K4.out.2.1.cell 2
  have RB := Lib.hid (fun w => erb_any mac mac2 2048 p2 w ⟨HC.out.m0, HC.out.m1, HC.out.n0, HC.out.n1, by decide, by decide⟩ (by have := SZ2.out; omega))
  have SZ3 : Hid ((ebS mac mac2 2048 p2).size ≤ 1024) := Lib.hid (by
    unfold ebS
    split
    · rename_i h; rw [ByteArray.size_append, str_size, headB_len]; omega
    · exact Nat.zero_le _)
  generalize ebS mac mac2 2048 p2 = p3 at *
  generalize ebE mac mac2 p2 = r3 at *
  clear SZ2
  go_wp2_with (fail)
  refine (RB.out w2).mono ?_
  rintro e w3 ⟨rfl, ho⟩
  have K5 := stay K4 ho
  clear ho K4 x0 x2 RB
  go_wp2_with (fail)
  go_ret
  exact ⟨⟨_, rfl, SZ3.out⟩, K5.out.2.2.1⟩
end Cl
end Go.Proofs.YtpdhoojjcgohpaaGreat

namespace Go.Proofs.YtpdhoojjcgohpaaGreat
set_option maxRecDepth 4000
open Go.RowKit
set_option linter.unusedVariables false

theorem gb_appL {a b : List Int} {i : Nat} (h : i < a.length) : gb (a ++ b) i = gb a i := by
  simp [gb, List.getD_eq_getElem?_getD, List.getElem?_append_left h]
theorem gb_appR {a b : List Int} {i : Nat} (h : a.length ≤ i) : gb (a ++ b) i = gb b (i - a.length) := by
  simp [gb, List.getD_eq_getElem?_getD, List.getElem?_append_right h]
theorem bare_16 (s : Sg) : gb (bareL s) 16 = 0 ∧ gb (bareL s) 17 = 0 := by
  rw [bareL_split]
  constructor
  · rw [gb_appR (by rw [aL_len]; decide), aL_len]; rfl
  · rw [gb_appR (by rw [aL_len]; decide), aL_len]; rfl
theorem hdL_eo (s : Sg) (src dst n c d : Int) : ev (hdL s src dst n c d) = ev (bareL s) + hdS s src dst n c d / 256 ∧ od (hdL s src dst n c d) = od (bareL s) + hdS s src dst n c d % 256 := by
  have hb := bareL_len s
  have hz := hsz_cases s
  have h0 := bare_16 s
  unfold hdL
  generalize hdS s src dst n c d = S at *
  have h1 := eo_set (bareL s) 16 (S / 256) (by omega)
  have h2 := eo_set ((bareL s).set 16 (S / 256)) 17 (S % 256) (by rw [List.length_set]; omega)
  rw [if_pos (by decide), if_pos (by decide), h0.1] at h1
  rw [if_neg (by decide), if_neg (by decide), gb_set_ne (by decide), h0.2] at h2
  rw [h2.1, h2.2, h1.1, h1.2]
  constructor <;> omega
theorem hdL_even (s : Sg) (src dst n c d : Int) : (hdL s src dst n c d).length % 2 = 0 := by rw [hdL_len]; exact hsz_even s
/-- the sum of all, as a number -/
def sgN (s : Sg) (src dst : Int) (cs : List Int) : Int := (ev (psB src dst 6 (sgL s src dst cs).length) + ev (sgL s src dst cs)) * 256 + (od (psB src dst 6 (sgL s src dst cs).length) + od (sgL s src dst cs))
theorem sgN_fold (s : Sg) {src dst : Int} {cs : List Int} (hb : AllB cs) : fold16 (sgN s src dst cs) = 65535 ∧ 0 ≤ sgN s src dst cs := by
  have hl := sgL_len s src dst cs
  have hc := eo_bd cs hb.mem
  have hS := hdS_bd s (src := src) (dst := dst) (n := cs.length) hc.1 hc.2.1
  have he := hdL_eo s src dst cs.length (ev cs) (od cs)
  have ha := eo_append (hdL s src dst cs.length (ev cs) (od cs)) cs
  rw [if_pos (hdL_even _ _ _ _ _ _), if_pos (hdL_even _ _ _ _ _ _)] at ha
  have hs := hd_sums s src dst cs.length
  have e : ((sgL s src dst cs).length : Int) = hsz s + cs.length := by rw [hl]; omega
  have hN : sgN s src dst cs = (hdP s src dst cs.length (ev cs) * 256 + hdQ s src dst cs.length (od cs)) + hdS s src dst cs.length (ev cs) (od cs) := by
    unfold sgN
    rw [e]
    have e1 : ev (sgL s src dst cs) = _ := ha.1
    have e2 : od (sgL s src dst cs) = _ := ha.2
    rw [e1, e2, he.1, he.2]
    unfold hdP hdQ
    omega
  have hpos : 0 ≤ hdP s src dst cs.length (ev cs) * 256 + hdQ s src dst cs.length (od cs) := by unfold hdP hdQ; omega
  rw [hN]
  refine ⟨fold16_plus hpos hS.1 hS.2 ?_, by omega⟩
  unfold hdS
  omega
theorem sp_L {s : Sg} (ok : sgOk s) (h : SgB s) (src dst : Int) {cs : List Int} (hb : AllB cs) : sgL s src dst cs = lo s.fr 2 ++ (lo s.to_ 2 ++ (lo s.sq 4 ++ (lo s.ak 4 ++ (dL s :: s.fl :: (lo s.wi 2 ++ (lo (hdS s src dst cs.length (ev cs) (od cs)) 2 ++ (0 :: 0 :: (optL s ++ cs)))))))) := by
  have hc := eo_bd cs hb.mem
  unfold sgL
  rw [hdL_split s hc.1 hc.2.1]
  unfold aL
  have := ok.1
  rw [lo1' (x := s.fl) (by omega) (by omega)]
  simp
theorem spF_back {s : Sg} (ok : sgOk s) (h : SgB s) (src dst : Int) {cs : List Int} (hb : AllB cs) (hn : cs.length ≤ 900) : spF src dst (sgL s src dst cs) = ⟨s, cs, 0⟩ := by
  have hl := sgL_len s src dst cs
  have hz := hsz_cases s
  have hN := (sgN_fold s (src := src) (dst := dst) hb).1
  have hf := sp_L ok h src dst hb
  have hS : spS src dst (sgL s src dst cs) = 65535 := hN
  generalize hdS s src dst cs.length (ev cs) (od cs) = S at *
  clear hN
  generalize sgL s src dst cs = L at *
  have d2 : L.drop 2 = lo s.to_ 2 ++ (lo s.sq 4 ++ (lo s.ak 4 ++ (dL s :: s.fl :: (lo s.wi 2 ++ (lo S 2 ++ (0 :: 0 :: (optL s ++ cs))))))) := by
    rw [hf]; exact List.drop_left' (lo_len _ 2)
  have d4 : L.drop 4 = lo s.sq 4 ++ (lo s.ak 4 ++ (dL s :: s.fl :: (lo s.wi 2 ++ (lo S 2 ++ (0 :: 0 :: (optL s ++ cs)))))) := by
    rw [show 4 = 2 + 2 from rfl, ← List.drop_drop, d2]; exact List.drop_left' (lo_len _ 2)
  have d8 : L.drop 8 = lo s.ak 4 ++ (dL s :: s.fl :: (lo s.wi 2 ++ (lo S 2 ++ (0 :: 0 :: (optL s ++ cs))))) := by
    rw [show 8 = 4 + 4 from rfl, ← List.drop_drop, d4]; exact List.drop_left' (lo_len _ 4)
  have d12 : L.drop 12 = dL s :: s.fl :: (lo s.wi 2 ++ (lo S 2 ++ (0 :: 0 :: (optL s ++ cs)))) := by
    rw [show 12 = 8 + 4 from rfl, ← List.drop_drop, d8]; exact List.drop_left' (lo_len _ 4)
  have d14 : L.drop 14 = lo s.wi 2 ++ (lo S 2 ++ (0 :: 0 :: (optL s ++ cs))) := by
    rw [show 14 = 12 + 2 from rfl, ← List.drop_drop, d12]; rfl
  have d16 : L.drop 16 = lo S 2 ++ (0 :: 0 :: (optL s ++ cs)) := by
    rw [show 16 = 14 + 2 from rfl, ← List.drop_drop, d14]; exact List.drop_left' (lo_len _ 2)
  have d18 : L.drop 18 = 0 :: 0 :: (optL s ++ cs) := by
    rw [show 18 = 16 + 2 from rfl, ← List.drop_drop, d16]; exact List.drop_left' (lo_len _ 2)
  have d20 : L.drop 20 = optL s ++ cs := by
    rw [show 20 = 18 + 2 from rfl, ← List.drop_drop, d18]; rfl
  have g12 : gb L 12 = dL s := by have := gb_drop L 12 0; rw [d12] at this; exact this.symm
  have g13 : gb L 13 = s.fl := by have := gb_drop L 12 1; rw [d12] at this; exact this.symm
  have hfl := ok.1
  have q0 := h.q0
  have q1 := h.q1
  have a1 := h.a1
  have w1 := h.w1
  have f1 := h.f1
  have t1 := h.t1
  have n0 : numV (L.take 2) = s.fr := by rw [hf, List.take_left' (lo_len _ 2)]; exact numV_lo_id h.f0 (by show _ < 65536; omega)
  have n2 : numV ((L.drop 2).take 2) = s.to_ := by rw [d2, List.take_left' (lo_len _ 2)]; exact numV_lo_id h.t0 (by show _ < 65536; omega)
  have n4 : numV ((L.drop 4).take 4) = s.sq := by rw [d4, List.take_left' (lo_len _ 4)]; exact numV_lo_id h.q0 (by show _ < 4294967296; omega)
  have n8 : numV ((L.drop 8).take 4) = s.ak := by rw [d8, List.take_left' (lo_len _ 4)]; exact numV_lo_id h.a0 (by show _ < 4294967296; omega)
  have n14 : numV ((L.drop 14).take 2) = s.wi := by rw [d14, List.take_left' (lo_len _ 2)]; exact numV_lo_id h.w0 (by show _ < 65536; omega)
  have sz : spSz L = hsz s := by unfold spSz; rw [g12]; unfold dL hsz; split <;> rfl
  have hoz := hsz_oz s
  have hol := optL_len s
  have k1 : ¬ sp1 L := by unfold sp1; omega
  have k3 : ¬ sp3 L := by unfold sp3; rw [sz]; omega
  have e1 : (L.take (hsz s)).drop 20 = optL s := by
    rw [List.drop_take, d20, show hsz s - 20 = (optL s).length by omega]
    exact List.take_left' rfl
  have e2 : L.drop (hsz s) = cs := by
    rw [hoz, ← List.drop_drop, d20]
    exact List.drop_left' hol
  have k4 : spO L = (s.ms, true) := by
    unfold spO
    rw [sz, e1]
    have hms := ok.2
    unfold optL hsz
    by_cases h0 : s.ms = 0
    · rw [if_pos h0, if_pos h0, h0]; rfl
    · rw [if_neg h0, if_neg h0, lo2' (by omega) (by omega)]
      rw [opt_go (by simp [gb]) (by simp [gb]) (by simp [gb])]
      have e : (2 :: 4 :: [s.ms / 256, s.ms % 256] : List Int).drop (gb (2 :: 4 :: [s.ms / 256, s.ms % 256]) 1).toNat = [] := rfl
      rw [e, opt_end (.inl rfl)]
      simp [gb]
      omega
  rw [spF_ok k1 hS k3 (by rw [k4])]
  unfold spP
  rw [n0, n2, n4, n8, g13, n14, k4, sz, e2]
  have e3 : s.fl % 64 = s.fl := by omega
  rw [e3]
/-- a word turned is told -/
theorem spF_turned {s : Sg} (src dst : Int) {cs : List Int} (hb : AllB cs) (hn : cs.length ≤ 900) {i : Nat} {now : Int} (he : i % 2 = 0) (hi : i + 1 < hsz s + cs.length) (h0 : 0 ≤ now) (h1 : now < 65535)
    (hne : now ≠ (gb (sgL s src dst cs) i * 256 + gb (sgL s src dst cs) (i + 1)) % 65535) : spF src dst (((sgL s src dst cs).set i (now / 256)).set (i + 1) (now % 256)) = spZ 51 := by
  have hl := sgL_len s src dst cs
  have hz := hsz_cases s
  have hN := sgN_fold s (src := src) (dst := dst) hb
  have hLb := sgL_bd s (src := src) (dst := dst) hb
  unfold sgN at hN
  generalize sgL s src dst cs = L at *
  have b1 := hLb i
  have b2 := hLb (i + 1)
  have k1 := eo_set L i (now / 256) (by omega)
  have k2 := eo_set (L.set i (now / 256)) (i + 1) (now % 256) (by rw [List.length_set]; omega)
  rw [if_pos he, if_pos he] at k1
  rw [if_neg (by omega), if_neg (by omega), gb_set_ne (by omega)] at k2
  have hl2 : ((L.set i (now / 256)).set (i + 1) (now % 256)).length = L.length := by rw [List.length_set, List.length_set]
  refine spF_2 (by unfold sp1; rw [hl2]; omega) ?_
  unfold spS
  rw [hl2, k2.1, k2.2, k1.1, k1.2]
  generalize ev (psB src dst 6 L.length) = p at *
  generalize od (psB src dst 6 L.length) = q at *
  generalize ev L = x at *
  generalize od L = y at *
  generalize gb L i = u at *
  generalize gb L (i + 1) = v at *
  obtain ⟨N, hNe⟩ : ∃ N, N = (p + x) * 256 + (q + y) := ⟨_, rfl⟩
  rw [← hNe] at hN
  have e : (p + (x + now / 256 - u)) * 256 + (q + (y + now % 256 - v)) = N - (u * 256 + v) + now := by omega
  rw [e]
  unfold fold16 at *
  intro hc
  split at hN
  · omega
  · split at hc
    · omega
    · omega
end Go.Proofs.YtpdhoojjcgohpaaGreat

namespace Go.Proofs.YtpdhoojjcgohpaaGreat
set_option maxRecDepth 4000
namespace Cl
open Go.RowKit
set_option linter.unusedVariables false
set_option linter.unusedSimpArgs false
/-- what is known of a client between calls: pb the law's own block -/
structure Lv (W0 : World) (pb g : Nat) (c : Cf) (i : Nat) (t : T) (GA : Option Addr) (Gc : Nat) (w : World) : Prop where
  at_ : At w w.heap.size g c t GA Gc none 0
  ok : Ok c t
  r : Tr t
  o : t.outs = []
  n : t.got.length ≤ 1010 * i
  wr : Only (fun k => pb < k) W0 w
  gb : bk GA = 0 ∨ pb + 1 < bk GA
  pg : pb < g
  pw : pb < w.heap.size
theorem Lv.keep {W0 w w' : World} {pb g i : Nat} {c : Cf} {t : T} {GA : Option Addr} {Gc : Nat} (h : Lv W0 pb g c i t GA Gc w) (ho : Only (fun _ => False) w w') : Lv W0 pb g c i t GA Gc w' :=
  ⟨(h.at_.keep ho).new h.o, h.ok, h.r, h.o, h.n, h.wr.trans ho (fun _ _ h => h.elim), h.gb, h.pg, Nat.lt_of_lt_of_le h.pw ho.size⟩
/-- a call: what it sends, and the client behind it -/
structure Rt (W0 : World) (pb g : Nat) (c : Cf) (i : Nat) (t : T) (v : Value) (w : World) (A : Option Addr) (c' : Nat) (vs : List Value) (t' : T) (GA : Option Addr) (Gc : Nat) : Prop where
  e : v = .slice A t'.outs.length c'
  m : Mid w pb 48 1 A t'.outs.length c' vs
  l : Els w pb vs t'.outs
  j : J c t'.nxt t'.outs
  gr : ∃ l, t'.got = t.got ++ l
  lv : Lv W0 pb g c (i + 1) { t' with outs := [] } GA Gc w
def Ret (W0 : World) (pb g : Nat) (c : Cf) (i : Nat) (t : T) (v : Value) (w : World) : Prop := ∃ A c' vs t' GA Gc, Rt W0 pb g c i t v w A c' vs t' GA Gc
theorem Ok.none {c : Cf} {t : T} (h : Ok c t) : Ok c { t with outs := [] } := h.outs []
theorem Ret.out {W0 w w' : World} {pb g i : Nat} {c : Cf} {t t' : T} {GA : Option Addr} {Gc : Nat} {e : Ending} (h : Lv W0 pb g c i t GA Gc w) (hg : G c t t') (ho : Out w g c t' GA Gc e w') : ∃ v, e = .returned v ∧ Ret W0 pb g c i t v w' := by
  obtain ⟨A, c', vs, he, hm, hl, hat, how⟩ := ho
  obtain ⟨l, gl, gn⟩ := hg.g
  have hn := h.n
  refine ⟨_, he, A, c', vs, t', GA, Gc, rfl, hm.mono (Nat.le_of_lt h.pw), hl.mono (Nat.le_of_lt h.pw), hg.i.j, ⟨l, gl⟩, hat, hg.ok.none, hg.r, rfl, ?_, h.wr.then (how.mono fun k _ hk => by rw [hk]; exact h.pg), h.gb, h.pg, Nat.lt_of_lt_of_le h.pw how.size⟩
  show t'.got.length ≤ _
  rw [gl, List.length_append]; omega
theorem Ret.outC {W0 w w' : World} {pb g i : Nat} {c : Cf} {t t' : T} {GA : Option Addr} {Gc : Nat} {e : Ending} (h : Lv W0 pb g c i t GA Gc w) (hg : G c t t') (ho : OutC w g c t' GA e w') : ∃ v, e = .returned v ∧ Ret W0 pb g c i t v w' := by
  obtain ⟨A, c', vs, GA', Gc', he, hm, hl, hat, how, hla⟩ := ho
  obtain ⟨l, gl, gn⟩ := hg.g
  have hn := h.n
  have hpw := h.pw
  have hgb := h.gb
  refine ⟨_, he, A, c', vs, t', GA', Gc', rfl, hm.mono (Nat.le_of_lt h.pw), hl.mono (Nat.le_of_lt h.pw), hg.i.j, ⟨l, gl⟩, hat, hg.ok.none, hg.r, rfl, ?_, h.wr.then (how.mono fun k _ hk => ?_), ?_, h.pg, Nat.lt_of_lt_of_le h.pw how.size⟩
  · show t'.got.length ≤ _
    rw [gl, List.length_append]; omega
  · rcases hk with hk | hk
    · rw [hk]; exact h.pg
    · omega
  · rcases hla with hla | hla
    · rw [hla]; exact hgb
    · right; omega
section
variable {W0 w : World} {pb g i : Nat} {c : Cf} {t : T} {GA : Option Addr} {Gc : Nat}
theorem ret_start (h : Lv W0 pb g c i t GA Gc w) (hc : CfB c) : Calls Tryz.prog 9 #[.pointer (some ⟨g, 0, none⟩)] w fun e w' => ∃ v, e = .returned v ∧ Ret W0 pb g c i t v w' :=
  (start_any h.at_ hc h.ok h.o).mono fun e w' ho => Ret.out h (G.start hc h.ok h.o h.r) ho
theorem ret_tick (h : Lv W0 pb g c i t GA Gc w) (hc : CfB c) : Calls Tryz.prog 14 #[.pointer (some ⟨g, 0, none⟩)] w fun e w' => ∃ v, e = .returned v ∧ Ret W0 pb g c i t v w' :=
  (tick_any h.at_ hc h.ok h.o).mono fun e w' ho => Ret.out h (G.tick hc h.ok h.o h.r) ho
theorem ret_in (h : Lv W0 pb g c i t GA Gc w) (hc : CfB c) (hi : i ≤ 1000) (PA : Option Addr) (pn pc : Nat) (cs : List Int) (hb : Byt w PA pn cs) (hn : pn ≤ 100000) : Calls Tryz.prog 12 #[.pointer (some ⟨g, 0, none⟩), .slice PA pn pc] w fun e w' => ∃ v, e = .returned v ∧ Ret W0 pb g c i t v w' :=
  (in_any PA pn pc cs h.at_ hc h.ok h.o hb hn (by have := h.n; omega)).mono fun e w' ho => Ret.outC h (G.in_ hc h.ok h.o h.r hb.bd) ho
end
/-- a packet that is sent: its segment -/
theorem out_parse {c : Cf} (hc : CfB c) {hi : Int} {s : ByteArray} (h : OutOk c hi s) :
    34 ≤ s.size ∧ s.size ≤ 1100 ∧ ∃ sg d, spF c.ip c.ip2 (codes (s.extract 34 s.size)) = ⟨sg, codes d, 0⟩ ∧ (d.size = 0 ∨ ∃ f : Nat, sg.sq = num c f ∧ f + d.size ≤ c.text.size ∧ ((f + d.size : Nat) : Int) ≤ hi ∧ c.text.extract f (f + d.size) = d) := by
  obtain ⟨e, fl, sq, d, h1, h2, h3, h4, h5, h6, h7⟩ := h
  obtain ⟨x, hx⟩ : ∃ x, x = xp c e fl sq := ⟨_, rfl⟩
  rw [← hx] at h1 h2
  have hWB : WpB x := by rw [hx]; exact xp_B hc h3.1 h3.2 h4.1 h4.2 h5.1 h5.2
  have hw : ¬ (x.wi < 0 ∨ 65535 < x.wi) := fun h => by rw [wE_w h] at h2; exact absurd h2 (by decide)
  have ok : sgOk (wsg x) := Classical.byContradiction fun h => by rw [wE_s hw h] at h2; exact absurd h2 (by decide)
  have hz := hsz_cases (wsg x)
  have hs := wsg_B hWB hw
  have hb := codes_bd d
  have hlen : (sgL (wsg x) x.ip x.ip2 (codes d)).length = hsz (wsg x) + d.size := by rw [sgL_len, codes_len]
  have e1 : codes s = headB x.mac2 x.mac 2048 ++ (hB x.id 64 6 x.ip x.ip2 (sgL (wsg x) x.ip x.ip2 (codes d)).length ++ sgL (wsg x) x.ip x.ip2 (codes d)) := by
    have hq := eo_bd (codes d) hb.mem
    rw [h1]
    unfold whS
    rw [if_pos h2, codes_app, codes_str (wL_bd _ hq.1 hq.2.1), hlen]
    unfold wL sgL
    simp only [List.append_assoc, codes_len]
    rw [show ((hsz (wsg x) + d.size : Nat) : Int) = (hsz (wsg x) : Int) + d.size from by omega]
  have e2 : (codes s).drop 34 = sgL (wsg x) x.ip x.ip2 (codes d) := by
    rw [e1, ← List.append_assoc]
    exact List.drop_left' (by rw [List.length_append, headB_len, hB_len])
  have hsz : s.size = 34 + (hsz (wsg x) + d.size) := by
    have := congrArg List.length e1
    rw [codes_len, List.length_append, List.length_append, headB_len, hB_len, hlen] at this
    omega
  have e3 : codes (s.extract 34 s.size) = sgL (wsg x) x.ip x.ip2 (codes d) := by
    rw [codes_extract, e2]
    exact List.take_of_length_le (by rw [hlen]; omega)
  have e4 := spF_back ok hs x.ip x.ip2 hb (by rw [codes_len]; omega)
  have hip : x.ip = c.ip ∧ x.ip2 = c.ip2 ∧ (wsg x).sq = sq := by rw [hx]; exact ⟨rfl, rfl, rfl⟩
  refine ⟨by omega, by omega, wsg x, d, ?_, ?_⟩
  · rw [e3, ← hip.1, ← hip.2.1, e4]
  · rcases h7 with h | ⟨fr, n, a1, a2, a3, a4, a5, a6⟩
    · exact .inl h
    · right
      have hd : d.size = n.toNat := by rw [a6]; exact cutT_size c a1 a2 a4
      unfold end_ at a4
      refine ⟨fr.toNat, ?_, by omega, by omega, ?_⟩
      · rw [hip.2.2, a5, Int.toNat_of_nonneg a1]
      · rw [hd, a6]
        unfold cutT
        congr 1
        omega
end Cl
end Go.Proofs.YtpdhoojjcgohpaaGreat

namespace Go.Proofs.YtpdhoojjcgohpaaGreat
set_option maxRecDepth 4000
namespace Cr
open Go.RowKit Cl
set_option linter.unusedVariables false
set_option linter.unusedSimpArgs false
set_option maxRecDepth 100000 in
set_option maxHeartbeats 1000000 in
theorem same_any {w : World} {B B2 : Nat} {A A2 : Option Addr} {c c2 : Nat} {vs : List Value} {L : List ByteArray} (hm : Mid w B 48 1 A L.length c vs) (hl : Els w B vs L) (hs : Mid w B2 9 1 A2 L.length c2 (strs L)) :
    Calls Tryz.prog 16 #[.slice A L.length c, .slice A2 L.length c2] w fun e w' => e = .returned (.bool true) ∧ Only (fun _ => False) w w' := by
  have hln : L.length ≤ 9223372036854775807 := by have := hm.le; have := hm.cm; unfold maxLen at this; omega
  have HM := Lib.hid hm
  have HL := Lib.hid hl
  have HS := Lib.hid hs
  clear hm hl hs
  go_enter Tryz.func16, Tryz.ntmps16
  go_wp2_with (fail)
  go_loopg [5] L.length (fun gk i' wr => ∃ i : Nat, gk + i = L.length ∧ i' = .int .i64 i ∧ Only (fun _ => False) w wr)
  case atStart => exact ⟨0, by omega, rfl, Only.refl _ _⟩
  case round =>
    obtain ⟨i, hgk, rfl, ho⟩ := hrel
    have HGK := Lib.hid hgk
    have HO := Lib.hid ho
    clear hgk ho
    by_cases hi : i < L.length
    · have hi2 : (i : Int) < (L.length : Int) := by omega
      obtain ⟨s, hsl⟩ : ∃ s, L[i]? = some s := ⟨_, List.getElem?_eq_getElem hi⟩
      obtain ⟨As, cs', hvs, hms⟩ := HL.out.at_ i s hsl
      obtain ⟨ob, oo, hA, -, hcell⟩ := HM.out.at_ (by have := HM.out.le; omega)
      obtain ⟨ob2, oo2, hA2, -, hcell2⟩ := HS.out.at_ (by have := HS.out.le; omega)
      have y0 : wr.cell? ⟨ob, oo + i, none⟩ = some (.slice As s.size cs') := by
        have h := hcell i (by omega)
        rw [hvs] at h
        exact (HO.out.cell (lt_of_cell h) (fun h => h)).trans h
      have y1 : wr.cell? ⟨ob2, oo2 + i, none⟩ = some (.string s) := by
        have h := hcell2 i (by omega)
        have e : (strs L)[i]? = some (.string s) := by unfold strs; rw [List.getElem?_map, hsl]; rfl
        rw [e] at h
        exact (HO.out.cell (lt_of_cell h) (fun h => h)).trans h
      have by1 : Byt wr As s.size (codes s) := (hms.sl.to_byt (codes_bd s)).only HO.out (fun _ _ _ h => h)
      have z0 := cell_regrown y0
      have z1 := cell_regrown y1
      have kc := fun d os => conv_bs (c := cs') (by1.only (regrown_only wr d os) (fun _ _ _ h => h)) 48 9 Tryz.underlying48 Tryz.underlying5 Tryz.underlying9
      rw [str_codes] at kc
      subst hA hA2
      clear hsl hvs hms hcell hcell2 y0 y1 by1
      go_upto_region 6 with (fail)
      go_cut [26] (fun v wd => v = .bool false ∧ Only (fun _ => False) wr wd)
      case first =>
        refine wp_region_quiet_below (by kernel_rfl) (by kernel_rfl) ?_
        repeat (go_big_quiet_step (fail))
        refine wpQuiet_nil ?_
        intro _ hw'
        obtain ⟨⟨dd, os⟩, hw''⟩ := hw'
        subst hw''
        have OQ := Lib.hid (regrown_only wr dd os)
        go_wp2_with (fail)
        go_meet
        exact ⟨rfl, OQ.out⟩
      case rest =>
      obtain ⟨rfl, ho8⟩ := hcut
      have O8 := Lib.hid (HO.out.then ho8)
      clear ho8 z0 z1 kc
      go_wp2_with (fail)
      go_roundg (gk - 1)
      case measure => have := HGK.out; omega
      case rel => exact ⟨i + 1, by have := HGK.out; omega, by go_num, O8.out⟩
    · have hi2 : ¬ (i : Int) < (L.length : Int) := by omega
      go_wp2_with (fail)
      go_ret
      exact ⟨rfl, HO.out⟩
end Cr
end Go.Proofs.YtpdhoojjcgohpaaGreat

namespace Go.Proofs.YtpdhoojjcgohpaaGreat
set_option maxRecDepth 4000
namespace Cb
open Go.RowKit Cl
set_option linter.unusedVariables false
set_option linter.unusedSimpArgs false
/-- between calls -/
structure Bo (W0 : World) (pb g h : Nat) (c : Cf) (i : Nat) (t : T) (GA : Option Addr) (Gc : Nat) (w : World) : Prop where
  lv : Lv W0 pb g c i t GA Gc w
  ref : Cr.At w w.heap.size h c t none 0
  ph : pb < h
/-- behind the calls: what both are about to send -/
structure Aft (W0 : World) (pb g h : Nat) (c : Cf) (i : Nat) (v : Value) (w : World) (A : Option Addr) (c' : Nat) (vs : List Value) (t' : T) (GA : Option Addr) (Gc : Nat) (B2 : Nat) (A2 : Option Addr) (c2 : Nat) : Prop where
  e : v = .slice A t'.outs.length c'
  m : Mid w pb 48 1 A t'.outs.length c' vs
  l : Els w pb vs t'.outs
  lv : Lv W0 pb g c (i + 1) { t' with outs := [] } GA Gc w
  ref : Cr.At w B2 h c t' A2 c2
  ph : pb < h
  pB : pb < B2
section
variable {W0 w w' : World} {pb g h i Gc B : Nat} {c : Cf} {t t' : T} {GA : Option Addr} {cs : Array Value}
/-- what the document's client writes does not reach the program's -/
theorem lv_only (hl : Lv W0 pb g c i t GA Gc w) (hb : Blk w h 55 cs) (ph : pb < h) (ho : Only (fun k => k = h) w w') : Lv W0 pb g c i t GA Gc w' := by
  have hg : g ≠ h := fun e => by
    have := hl.at_.blk.ne_ hb (by decide)
    exact this e
  have h1 : At w' w'.heap.size g c t GA Gc none 0 := by
    have hb1 := hl.at_.blk.only ho hg
    have hm := hl.at_.got.only ho fun k hk e => hl.at_.got.ne_blk hb (by decide) (e ▸ hk)
    exact ⟨hb1, hm, ⟨[], by rw [hl.o]; exact Mid.nil _ _ _ _, by rw [hl.o]; exact Els.nil _ _⟩, hb1.lt, hm.hi, Nat.le_refl _⟩
  exact ⟨h1, hl.ok, hl.r, hl.o, hl.n, hl.wr.then (ho.mono fun k _ e => by rw [e]; exact ph), hl.gb, hl.pg, Nat.lt_of_lt_of_le hl.pw ho.size⟩
theorem els_only {vs : List Value} {L : List ByteArray} (hl : Els w B vs L) (hb : Blk w h 55 cs) (ho : Only (fun k => k = h) w w') : Els w' B vs L := ⟨hl.len, fun i s hi => by
  obtain ⟨A', c', h1, h2⟩ := hl.at_ i s hi
  exact ⟨A', c', h1, h2.only ho fun k hk e => h2.ne_blk hb (by decide) (e ▸ hk)⟩⟩
/-- what the program's client writes does not reach the document's -/
theorem ref_only {B2 : Nat} (hr : Cr.At w B2 h c t none 0) (ht : t.outs = []) (hl : Cl.At w B g c t' GA Gc none 0) (ho : Only (fun k => k = g ∨ k + 1 = bk GA) w w') : Cr.At w' w'.heap.size h c t none 0 := by
  refine hr.only_ ht ho (fun e => ?_)
  rcases e with e | e
  · exact (hr.blk.ne_ hl.blk (by decide)) e
  · exact hl.got.ne_blk hr.blk (by decide) e
/-- the program's call, then the document's -/
theorem aft_of (hb : Bo W0 pb g h c i t GA Gc w) (hg : G c t t') {e : Ending} (ho : OutC w g c t' GA e w') :
    ∃ v, e = .returned v ∧ Cr.At w' w'.heap.size h c t none 0 ∧ pb < w'.heap.size ∧ ∀ (e2 : Ending) (w2 : World), Cr.GoneN w' h c t' e2 w2 → ∃ A c' vs GA' Gc' B2 A2 c2, Aft W0 pb g h c i v w2 A c' vs t' GA' Gc' B2 A2 c2 := by
  have hr := hb.ref
  have href : Cr.At w' w'.heap.size h c t none 0 := by
    obtain ⟨A, c', vs, GA', Gc', he, hm, hl, hat, how, hla⟩ := ho
    exact ref_only hr hb.lv.o hb.lv.at_ how
  obtain ⟨v, he, hret⟩ := Ret.outC hb.lv hg ho
  obtain ⟨A, c', vs, GA', Gc', he2, hm, hl, hat, how, hla⟩ := ho
  have hpw : pb < w'.heap.size := Nat.lt_of_lt_of_le hb.lv.pw how.size
  refine ⟨_, he2, href, hpw, ?_⟩
  rintro e2 w2 ⟨-, B2, A2, c2, hB2, hat2, ho2⟩
  have hlv : Lv W0 pb g c (i + 1) { t' with outs := [] } GA' Gc' w' := by
    obtain ⟨l, gl, gn⟩ := hg.g
    have hn := hb.lv.n
    have hpw2 := hb.lv.pw
    have hgb := hb.lv.gb
    refine ⟨hat, hg.ok.none, hg.r, rfl, ?_, hb.lv.wr.then (how.mono fun k _ hk => ?_), ?_, hb.lv.pg, hpw⟩
    · show t'.got.length ≤ _
      rw [gl, List.length_append]; omega
    · rcases hk with hk | hk
      · rw [hk]; exact hb.lv.pg
      · omega
    · rcases hla with hla | hla
      · rw [hla]; exact hgb
      · right; omega
  exact ⟨A, c', vs, GA', Gc', B2, A2, c2, rfl, (hm.only ho2 fun k hk e => hm.ne_blk href.blk (by decide) (e ▸ hk)).mono (Nat.le_of_lt hb.lv.pw), (els_only hl href.blk ho2).mono (Nat.le_of_lt hb.lv.pw), lv_only hlv href.blk hb.ph ho2, hat2, hb.ph, Nat.lt_of_lt_of_le hpw hB2⟩
theorem outC_of {e : Ending} (ho : Out w g c t' GA Gc e w') : OutC w g c t' GA e w' := by
  obtain ⟨A, c', vs, he, hm, hl, hat, how⟩ := ho
  exact ⟨A, c', vs, GA, Gc, he, hm, hl, hat, how.mono (fun _ _ h => Or.inl h), .inl rfl⟩
theorem goneN_of {e : Ending} (hg : Cr.Gone w w.heap.size h c t' e w') : Cr.GoneN w h c t' e w' := by
  obtain ⟨he, A, c', hat, ho⟩ := hg
  refine ⟨he, _, A, c', Nat.le_refl _, hat, ho.mono (fun k hk hw => ?_)⟩
  rcases hw with hw | hw
  · exact hw
  · omega
end
end Cb
end Go.Proofs.YtpdhoojjcgohpaaGreat
