/- The law of 'Rows.SumsJoinsSaid': for every input the call returns true and leaves its arguments as they were. No condition. -/
import Derived.Test.YtomfbphlfifjdaaRows
import Derived.WalkKit
import Derived.ProofKit
import Derived.OpenShut
import Derived.ChangeOld
import Derived.Below
import Derived.Deep.CutBlock
import Derived.Laws.BytesArg
import Derived.Test.YtomfbphlfifjdaaSumsR
import Derived.Test.YtomfbphlfifjdaaHeld
namespace Go.Proofs.Ytomfbphlfifjdaa.sumsJoins
open Go.ChangeShapes Go.WideShapes Go.ChangeAt Go.RowKit
set_option linter.unusedVariables false

theorem own : ownKnob Try.prog.godebug = none := by kernel_rfl
theorem laidOut : laidOutB Try.prog = true := by kernel_rfl

theorem order_same (z : Int) (h : z.natAbs < 2 ^ 53) : FloatKind.f64.format.order (fb z) (fb z) = some .eq := by
  have e : FloatKind.f64.format.order (fb z) (fb z) = some (compare z z) := order_fb (rd_fb _ h) (rd_fb _ h)
  rw [e]; simp [compare, compareOfLessAndEq]
/-- a pair that came in -/
theorem seen_pair {w : World} {v : Value} (s : Seen w 29 v) : ∃ a b : Int, v = .agg #[.int .i64 a, .int .i64 b] := by
  obtain ⟨cs, rfl, hr⟩ := s.struct Try.underlying29
  obtain ⟨hl, hf⟩ := hr.struct Try.underlying29
  have hl2 : cs.toList.length = 2 := by rw [hl]; kernel_rfl
  obtain ⟨cs⟩ := cs
  match cs, hl2 with
  | [c0, c1], _ =>
    obtain ⟨x, hx, _⟩ := (hf 0 _ rfl).int (k := .i64) Try.underlying2
    obtain ⟨y, hy, _⟩ := (hf 1 _ rfl).int (k := .i64) Try.underlying2
    have k1 : Try.prog.cellsOf 2 = 1 := by kernel_rfl
    simp [k1] at hx hy
    subst hx hy
    exact ⟨x, y, rfl⟩
structure JS (w W : World) (a b c d : Int) : Prop where
  bel : Below w.heap.size w W
  k1 : Blk W w.heap.size 29 #[.int .i64 a, .int .i64 b]
  k2 : Blk W (w.heap.size + 1) 29 #[.int .i64 c, .int .i64 d]
theorem JS.only {w W W' : World} {a b c d : Int} (h : JS w W a b c d) (ho : Only (fun _ => False) W W') : JS w W' a b c d :=
  ⟨Below.put h.bel (Nat.le_refl _) (fun _ _ h => h) ho, h.k1.only ho (fun h => h), h.k2.only ho (fun h => h)⟩

set_option maxRecDepth 100000 in
set_option maxHeartbeats 4000000 in
theorem walk (v0 : Value) (v1 : Value) (v2 : Value) (v3 : Value) (w : World) (s0 : Seen w 29 v0) (s1 : Seen w 3 v1) (s2 : Seen w 29 v2) (s3 : Seen w 34 v3) :
    Calls Try.prog 4 #[v0, v1, v2, v3] w fun e w' => e = .returned (.bool true) ∧ Below w.heap.size w w' := by
  obtain ⟨a, b, rfl⟩ := seen_pair s0
  obtain ⟨l, rfl, hxl⟩ := s1.int Try.underlying3
  obtain ⟨c, d, rfl⟩ := seen_pair s2
  obtain ⟨x3, rfl, hx3⟩ := s3.int Try.underlying34
  have e1 : IntKind.u16.min = 0 := by decide
  have e2 : IntKind.u16.max = 65535 := by decide
  have hu3 : 0 ≤ x3 ∧ x3 ≤ 65535 := by have : IntKind.u16.min ≤ x3 ∧ x3 ≤ IntKind.u16.max := by simpa [Lit.wf] using hx3
                                       rwa [e1, e2] at this
  have e3 : IntKind.i64.min = -9223372036854775808 := by decide
  have e4 : IntKind.i64.max = 9223372036854775807 := by decide
  have hl3 : -9223372036854775808 ≤ l ∧ l ≤ 9223372036854775807 := by have : IntKind.i64.min ≤ l ∧ l ≤ IntKind.i64.max := by simpa [Lit.wf] using hxl
                                                                      rwa [e3, e4] at this
  obtain ⟨v, rfl⟩ : ∃ v : Nat, x3 = v := ⟨x3.toNat, by omega⟩
  have hc3 : v ≤ 65535 := by omega
  obtain ⟨ll1, ll2⟩ := hl3
  clear s0 s1 s2 s3 hxl hx3 hu3 e1 e2 e3 e4
  go_enter Try.func4, Try.ntmps4
  go_wp2_with (fail)
  obtain ⟨W0, hW0⟩ : ∃ W0, W0 = (w.alloc (.cells #[.int .i64 a, .int .i64 b] 29)).alloc (.cells #[.int .i64 c, .int .i64 d] 29) := ⟨_, rfl⟩
  rw [← hW0]
  have hO0 : Only (fun _ => False) w W0 := by rw [hW0]; exact ((Only.refl _ w).alloc _).alloc _
  have hk1 : Blk W0 w.heap.size 29 #[.int .i64 a, .int .i64 b] := by rw [hW0]; exact (Blk.new w 29 _).alloc _
  have hk2 : Blk W0 (w.heap.size + 1) 29 #[.int .i64 c, .int .i64 d] := by rw [hW0]; simpa using Blk.new (w.alloc (.cells #[.int .i64 a, .int .i64 b] 29)) 29 #[.int .i64 c, .int .i64 d]
  clear hW0
  refine (alive_any _).mono ?_
  rintro e w1 ⟨rfl, hbl⟩
  have B1 := Lib.hid (hO0.none_below.trans (hbl.mono hO0.size))
  have HK1 := Lib.hid (hk1.below hbl hk1.lt)
  have HK2 := Lib.hid (hk2.below hbl hk2.lt)
  clear hbl hO0 hk1 hk2
  have d0 : w1.cell? ⟨w.heap.size, 0, none⟩ = some (.int .i64 a) := HK1.out.cell 0
  have d1 : w1.cell? ⟨w.heap.size, 1, none⟩ = some (.int .i64 b) := HK1.out.cell 1
  have d2 : w1.cell? ⟨w.heap.size + 1, 0, none⟩ = some (.int .i64 c) := HK2.out.cell 0
  have d3 : w1.cell? ⟨w.heap.size + 1, 1, none⟩ = some (.int .i64 d) := HK2.out.cell 1
  by_cases g1 : 1125899906842624 < a
  · go_wp2_with (fail)
    go_ret
    exact ⟨rfl, B1.out⟩
  by_cases g2 : 1125899906842624 < b
  · go_wp2_with (fail)
    go_ret
    exact ⟨rfl, B1.out⟩
  by_cases g3 : 1125899906842624 < c
  · go_wp2_with (fail)
    go_ret
    exact ⟨rfl, B1.out⟩
  by_cases g4 : 1125899906842624 < d
  · go_wp2_with (fail)
    go_ret
    exact ⟨rfl, B1.out⟩
  by_cases g5 : a < -1125899906842624
  · go_wp2_with (fail)
    go_ret
    exact ⟨rfl, B1.out⟩
  by_cases g6 : b < -1125899906842624
  · go_wp2_with (fail)
    go_ret
    exact ⟨rfl, B1.out⟩
  by_cases g7 : c < -1125899906842624
  · go_wp2_with (fail)
    go_ret
    exact ⟨rfl, B1.out⟩
  by_cases g8 : d < -1125899906842624
  · go_wp2_with (fail)
    go_ret
    exact ⟨rfl, B1.out⟩
  go_upto_region 5 with (fail)
  have ba : a.natAbs < 2 ^ 53 := by omega
  have bb : b.natAbs < 2 ^ 53 := by omega
  have bc : c.natAbs < 2 ^ 53 := by omega
  have bd : d.natAbs < 2 ^ 53 := by omega
  have HW : Hid (w.heap.size + 1 < w1.heap.size) := Lib.hid HK2.out.lt
  have r0 : ∀ dd os, (Sort.grow (redrawn w1 dd) os).cell? ⟨w.heap.size, 0, none⟩ = some (.int .i64 a) := cell_regrown d0
  have r1 : ∀ dd os, (Sort.grow (redrawn w1 dd) os).cell? ⟨w.heap.size, 1, none⟩ = some (.int .i64 b) := cell_regrown d1
  have r2 : ∀ dd os, (Sort.grow (redrawn w1 dd) os).cell? ⟨w.heap.size + 1, 0, none⟩ = some (.int .i64 c) := cell_regrown d2
  have r3 : ∀ dd os, (Sort.grow (redrawn w1 dd) os).cell? ⟨w.heap.size + 1, 1, none⟩ = some (.int .i64 d) := cell_regrown d3
  clear g1 g2 g3 g4 g5 g6 g7 g8
  refine wp_region_quiet_below (by kernel_rfl) (by kernel_rfl) ?_
  repeat (first | go_big_quiet_step ((go_at_call 11; exact Calls.regrown_of ((number_any _ _ _).mono fun e w' h => ⟨h.1, h.2.none_below⟩))))
  refine wpQuiet_nil ?_
  intro _ hw'
  obtain ⟨⟨dd, os⟩, hw''⟩ := hw'
  subst hw''
  have hO := below_regrown w1 dd os
  generalize Sort.grow (redrawn w1 dd) os = W at *
  have B2 := Lib.hid (B1.out.trans (hO.mono B1.out.size))
  have K1 := Lib.hid (HK1.out.below hO HK1.out.lt)
  have K2 := Lib.hid (HK2.out.below hO HK2.out.lt)
  clear r0 r1 r2 r3 d0 d1 d2 d3 hO HK1 HK2 B1 HW
  have d0 : W.cell? ⟨w.heap.size, 0, none⟩ = some (.int .i64 a) := K1.out.cell 0
  have d1 : W.cell? ⟨w.heap.size, 1, none⟩ = some (.int .i64 b) := K1.out.cell 1
  have hwd := word_any v hc3
  rw [Int.natCast_ediv, Int.natCast_emod] at hwd
  have hwd' : ∀ w, Calls Try.prog 18 #[.int .u16 (v : Int)] w fun e w' => e = .returned (.complex .f64 (fb ((v : Int) / 256)) (fb ((v : Int) % 256))) ∧ w = w' := hwd
  have o1 := order_same ((v : Int) / 256) (by omega)
  have o2 := order_same ((v : Int) % 256) (by omega)
  have kf : ∀ z, floatOfInt .f64 z = fb z := fun _ => rfl
  clear hwd
  go_upto_region 8 with (first | (go_at_call 18; refine (hwd' _).mono ?_; rintro e w' ⟨rfl, rfl⟩))
  clear o1 o2 kf hwd'
  have J1 : Hid (JS w W a b c d) := Lib.hid ⟨B2.out, K1.out, K2.out⟩
  clear B2 K1 K2 d0 d1 hc3
  have oz : FloatKind.f64.format.order 0 0 = some .eq := by decide +kernel
  cases hS : (may1 a && may1 b)
  · have d0 : W.cell? ⟨w.heap.size, 0, none⟩ = some (.int .i64 a) := J1.out.k1.cell 0
    have d1 : W.cell? ⟨w.heap.size, 1, none⟩ = some (.int .i64 b) := J1.out.k1.cell 1
    have h1 := fun w => fold_bad a b ba bb hS w
    have h2 := fun w => rmay_any a b w
    have h3 := fun w => join_bad a b c d l ba bb bc bd (Or.inr (Or.inl hS)) w
    rw [hS] at h2
    clear hS
    generalize fb a = X at *
    generalize fb b = Y at *
    generalize fb c = X2 at *
    generalize fb d = Y2 at *
    go_wp2_with (fail)
    refine (h1 _).mono ?_
    rintro e w' ⟨rfl, rfl⟩
    go_wp2_with (fail)
    refine (h2 _).mono ?_
    rintro e w2 ⟨rfl, ho2⟩
    have J2 := Lib.hid (J1.out.only ho2)
    have d0 : w2.cell? ⟨w.heap.size, 0, none⟩ = some (.int .i64 a) := J2.out.k1.cell 0
    have d1 : w2.cell? ⟨w.heap.size, 1, none⟩ = some (.int .i64 b) := J2.out.k1.cell 1
    clear ho2 J1
    go_wp2_with (fail)
    refine (h3 _).mono ?_
    rintro e w' ⟨rfl, rfl⟩
    by_cases hl : l < 0
    · go_wp2_with (fail)
      go_ret
      exact ⟨rfl, J2.out.bel⟩
    · go_wp2_with (fail)
      refine (h2 _).mono ?_
      rintro e w3 ⟨rfl, ho3⟩
      have J3 := Lib.hid (J2.out.only ho3)
      clear ho3 J2
      go_wp2_with (fail)
      go_ret
      exact ⟨rfl, J3.out.bel⟩
  · have hab : may1 a = true ∧ may1 b = true := by simpa using hS
    have la := may_lt hab.1
    have lb := may_lt hab.2
    have d0 : W.cell? ⟨w.heap.size, 0, none⟩ = some (.int .i64 a) := J1.out.k1.cell 0
    have d1 : W.cell? ⟨w.heap.size, 1, none⟩ = some (.int .i64 b) := J1.out.k1.cell 1
    have h1 := fun w => fold_ok a b la lb w
    have h2 := fun w => rmay_any a b w
    have h4 := fun w => rfold_any a b la lb w
    have hfb := fold16_bd (n := a * 256 + b) (by omega)
    rw [hS] at h2
    obtain ⟨f, hf⟩ : ∃ f, f = fold16 (a * 256 + b) := ⟨_, rfl⟩
    rw [← hf] at h1 h4 hfb
    obtain ⟨f0, f1⟩ := hfb
    clear hf
    go_wp2_with (fail)
    refine (h1 _).mono ?_
    rintro e w' ⟨rfl, rfl⟩
    go_wp2_with (fail)
    refine (h2 _).mono ?_
    rintro e w2 ⟨rfl, ho2⟩
    have J2 := Lib.hid (J1.out.only ho2)
    have d0 : w2.cell? ⟨w.heap.size, 0, none⟩ = some (.int .i64 a) := J2.out.k1.cell 0
    have d1 : w2.cell? ⟨w.heap.size, 1, none⟩ = some (.int .i64 b) := J2.out.k1.cell 1
    clear ho2 J1
    go_wp2_with (fail)
    refine (h4 _).mono ?_
    rintro e w3 ⟨rfl, ho3⟩
    have J3 := Lib.hid (J2.out.only ho3)
    clear ho3 J2
    go_upto_region 14 with (fail)
    have d0 : w3.cell? ⟨w.heap.size, 0, none⟩ = some (.int .i64 a) := J3.out.k1.cell 0
    have d1 : w3.cell? ⟨w.heap.size, 1, none⟩ = some (.int .i64 b) := J3.out.k1.cell 1
    clear h1 h4 f0 f1
    by_cases hl : l < 0
    · have h3 := fun w => join_bad a b c d l ba bb bc bd (Or.inl hl) w
      go_wp2_with (fail)
      refine (h3 _).mono ?_
      rintro e w' ⟨rfl, rfl⟩
      go_wp2_with (fail)
      go_ret
      exact ⟨rfl, J3.out.bel⟩
    cases hT : (may1 c && may1 d)
    · have h3 := fun w => join_bad a b c d l ba bb bc bd (Or.inr (Or.inr hT)) w
      have h5 := fun w => rmay_any c d w
      rw [hT] at h5
      clear hT
      go_wp2_with (fail)
      refine (h3 _).mono ?_
      rintro e w' ⟨rfl, rfl⟩
      go_wp2_with (fail)
      refine (h2 _).mono ?_
      rintro e w4 ⟨rfl, ho4⟩
      have J4 := Lib.hid (J3.out.only ho4)
      have d2 : w4.cell? ⟨w.heap.size + 1, 0, none⟩ = some (.int .i64 c) := J4.out.k2.cell 0
      have d3 : w4.cell? ⟨w.heap.size + 1, 1, none⟩ = some (.int .i64 d) := J4.out.k2.cell 1
      clear ho4 J3
      go_wp2_with (fail)
      refine (h5 _).mono ?_
      rintro e w5 ⟨rfl, ho5⟩
      have J5 := Lib.hid (J4.out.only ho5)
      clear ho5 J4
      go_wp2_with (fail)
      go_ret
      exact ⟨rfl, J5.out.bel⟩
    · have hcd : may1 c = true ∧ may1 d = true := by simpa using hT
      have lc := may_lt hcd.1
      have ld := may_lt hcd.2
      obtain ⟨p, hp⟩ : ∃ p, p = if l % 2 = 1 then a + d else a + c := ⟨_, rfl⟩
      obtain ⟨q, hq⟩ : ∃ q, q = if l % 2 = 1 then b + c else b + d := ⟨_, rfl⟩
      have h3 := fun w => join_go a b c d l p q hab.1 hab.2 hcd.1 hcd.2 (by omega) hp hq w
      have h5 := fun w => rmay_any c d w
      have h6 := fun w => rjoin_any a b c d (l % 2) p q la lb lc ld (by omega) hp hq w
      have h7 := fun w => rmay_any p q w
      have h8 := fun w => number_any p q w
      have bp : p.natAbs < 2 ^ 53 := by rw [hp]; split <;> omega
      have bq : q.natAbs < 2 ^ 53 := by rw [hq]; split <;> omega
      have op := order_same p bp
      have oq := order_same q bq
      have hl0 : 0 ≤ l := by omega
      rw [hT] at h5
      clear hT hS hp hq ba bb bc bd bp bq la lb lc ld hab hcd
      generalize fb p = X3 at *
      generalize fb q = Y3 at *
      generalize (may1 p && may1 q) = u at *
      generalize fb a = X at *
      generalize fb b = Y at *
      generalize fb c = X2 at *
      generalize fb d = Y2 at *
      have HC : Hid (∀ w, Calls Try.prog 20 #[.complex .f64 X Y, .int .i64 l, .complex .f64 X2 Y2] w fun e w' => ∃ A B E, e = .returned (.tuple #[.complex .f64 A B, .int .i64 E]) ∧ w = w' ∧ ((u = true ∧ A = X3 ∧ B = Y3 ∧ E = 0) ∨ (u = false ∧ A = 0 ∧ B = 0 ∧ E = 1))) := Lib.hid (fun w => (h3 w).mono (by
        rintro e w' ⟨rfl, rfl⟩
        cases u
        · exact ⟨0, 0, 1, rfl, rfl, Or.inr ⟨rfl, rfl, rfl, rfl⟩⟩
        · exact ⟨X3, Y3, 0, rfl, rfl, Or.inl ⟨rfl, rfl, rfl, rfl⟩⟩))
      clear h3
      go_wp2_with (fail)
      refine (HC.out _).mono ?_
      rintro e w' ⟨EA, EB, EE, rfl, rfl, hcase⟩
      have HCASE := Lib.hid hcase
      clear hcase
      go_wp2_with (fail)
      refine (h2 _).mono ?_
      rintro e w4 ⟨rfl, ho4⟩
      have J4 := Lib.hid (J3.out.only ho4)
      have d2 : w4.cell? ⟨w.heap.size + 1, 0, none⟩ = some (.int .i64 c) := J4.out.k2.cell 0
      have d3 : w4.cell? ⟨w.heap.size + 1, 1, none⟩ = some (.int .i64 d) := J4.out.k2.cell 1
      clear ho4 J3 d0 d1
      go_wp2_with (fail)
      refine (h5 _).mono ?_
      rintro e w5 ⟨rfl, ho5⟩
      have J5 := Lib.hid (J4.out.only ho5)
      have d0 : w5.cell? ⟨w.heap.size, 0, none⟩ = some (.int .i64 a) := J5.out.k1.cell 0
      have d1 : w5.cell? ⟨w.heap.size, 1, none⟩ = some (.int .i64 b) := J5.out.k1.cell 1
      have d2 : w5.cell? ⟨w.heap.size + 1, 0, none⟩ = some (.int .i64 c) := J5.out.k2.cell 0
      have d3 : w5.cell? ⟨w.heap.size + 1, 1, none⟩ = some (.int .i64 d) := J5.out.k2.cell 1
      clear ho5 J4
      go_wp2_with (fail)
      refine (h6 _).mono ?_
      rintro e w6 ⟨rfl, ho6⟩
      have B6 := Lib.hid (J5.out.only ho6).bel
      clear ho6 J5 d0 d1 d2 d3
      go_upto_region 18 with (fail)
      have B7 := Lib.hid (Below.put B6.out (Nat.le_refl _) (fun _ _ h => h) ((Only.refl (fun _ => False) w6).alloc (.cells #[.int .i64 p, .int .i64 q] 29)))
      have HK := Lib.hid (Blk.new w6 29 #[.int .i64 p, .int .i64 q])
      generalize w6.alloc (.cells #[.int .i64 p, .int .i64 q] 29) = w7 at *
      generalize w6.heap.size = gp at *
      have d0 : w7.cell? ⟨gp, 0, none⟩ = some (.int .i64 p) := HK.out.cell 0
      have d1 : w7.cell? ⟨gp, 1, none⟩ = some (.int .i64 q) := HK.out.cell 1
      clear B6
      go_wp2_with (fail)
      refine (h7 _).mono ?_
      rintro e w8 ⟨rfl, ho8⟩
      have B8 := Lib.hid (Below.put B7.out (Nat.le_refl _) (fun _ _ h => h) ho8)
      have hk8 := HK.out.only ho8 (fun h => h)
      have d0 : w8.cell? ⟨gp, 0, none⟩ = some (.int .i64 p) := hk8.cell 0
      have d1 : w8.cell? ⟨gp, 1, none⟩ = some (.int .i64 q) := hk8.cell 1
      clear B7 HK ho8 hk8
      rcases HCASE.out with ⟨rfl, rfl, rfl, rfl⟩ | ⟨rfl, rfl, rfl, rfl⟩
      · go_wp2_with (fail)
        refine (h8 _).mono ?_
        rintro e w9 ⟨rfl, ho9⟩
        have B9 := Lib.hid (Below.put B8.out (Nat.le_refl _) (fun _ _ h => h) ho9)
        clear ho9
        go_wp2_with (fail)
        go_ret
        exact ⟨rfl, B9.out⟩
      · go_wp2_with (fail)
        go_ret
        exact ⟨rfl, B8.out⟩

set_option maxRecDepth 100000 in
theorem lifted (os : Os) (started : os.Started) (H : Type) (enc : TypeId × Value → H) :
    ReturnsInHanded {} Try.checked os 4 .any (Rows.sumsJoinsSpec.pre6 enc Try.prog Try.f4 Rows.sumsJoinsRow.domain false) (Rows.sumsJoinsSpec.post enc Try.prog Try.f4 false true false false) := by
  refine returnsInHanded_of_change (C := Try.checked) own started (by kernel_rfl) Try.func4
    (ChangeSpec.witness6 (enc := enc) (C := Try.checked) false ⟨#[], #[.agg #[.int .i64 0, .int .i64 0], .int .i64 0, .agg #[.int .i64 0, .int .i64 0], .int .u16 0], []⟩ 8 (by kernel_rfl) (by kernel_rfl) (by kernel_rfl) (by kernel_rfl)) ?_
  intro W base args ds gs before hval0 hW hcnd _
  have hval : ∀ (j : Nat) t v, Try.f4.params[j]? = some t → args[j]? = some v → Value.okWide Try.prog W .any base t v := hval0
  have hW' := hW
  obtain ⟨p, q, hA0, hV, rfl, hfz, hnd⟩ := hW
  have hA : DataW.TrodAll enc Try.prog W 0 (fun _ => true) true Try.f4.params.toList args.toList ds p := hA0
  rw [Try.params4] at hA hval
  obtain ⟨v0, vs0, d0, ds0, p0, q0, hargs, rfl, rfl, h0, r0⟩ := trodAll_cons hA
  obtain ⟨v1, vs1, d1, ds1, p1, q1, rfl, rfl, rfl, h1, r1⟩ := trodAll_cons r0
  obtain ⟨v2, vs2, d2, ds2, p2, q2, rfl, rfl, rfl, h2, r2⟩ := trodAll_cons r1
  obtain ⟨v3, vs3, d3, ds3, p3, q3, rfl, rfl, rfl, h3, r3⟩ := trodAll_cons r2
  obtain ⟨rfl, rfl, rfl⟩ := trodAll_nil r3
  obtain rfl : args = #[v0, v1, v2, v3] := by cases args; simp_all
  obtain ⟨rfl, rfl⟩ := trodVars_none hV
  have lt0 : ∀ x ∈ p0, x.block < W.heap.size := by obtain ⟨m, hm⟩ := h0; exact DataW.trod_lt m _ _ _ hm
  have s0 : Seen W 29 v0 := ⟨⟨base, hval 0 29 v0 rfl rfl⟩, H, enc, d0, p0, h0⟩
  have lt1 : ∀ x ∈ p1, x.block < W.heap.size := by obtain ⟨m, hm⟩ := h1; exact DataW.trod_lt m _ _ _ hm
  have s1 : Seen W 3 v1 := ⟨⟨base, hval 1 3 v1 rfl rfl⟩, H, enc, d1, p1, h1⟩
  have lt2 : ∀ x ∈ p2, x.block < W.heap.size := by obtain ⟨m, hm⟩ := h2; exact DataW.trod_lt m _ _ _ hm
  have s2 : Seen W 29 v2 := ⟨⟨base, hval 2 29 v2 rfl rfl⟩, H, enc, d2, p2, h2⟩
  have lt3 : ∀ x ∈ p3, x.block < W.heap.size := by obtain ⟨m, hm⟩ := h3; exact DataW.trod_lt m _ _ _ hm
  have s3 : Seen W 34 v3 := ⟨⟨base, hval 3 34 v3 rfl rfl⟩, H, enc, d3, p3, h3⟩
  clear hA0 hval0
  refine (walk v0 v1 v2 v3 W s0 s1 s2 s3).mono fun e W' ⟨he, bel⟩ => ?_
  subst he
  exact ⟨_, rfl, _, _, _, [], _, [], hW', trodAll_mk1 (shut_bool Try.underlying4 _), (trodAll_cons_mk (Below.trod laidOut (by kernel_rfl) (of_decide_eq_true (by kernel_rfl)) h0 bel lt0) (trodAll_cons_mk (Below.trod laidOut (by kernel_rfl) (of_decide_eq_true (by kernel_rfl)) h1 bel lt1) (trodAll_cons_mk (Below.trod laidOut (by kernel_rfl) (of_decide_eq_true (by kernel_rfl)) h2 bel lt2) (trodAll_cons_mk (Below.trod laidOut (by kernel_rfl) (of_decide_eq_true (by kernel_rfl)) h3 bel lt3) trodAll_mk0)))), rfl, bel.frame _, fun h => by cases h⟩

theorem over : Rows.sumsJoinsRow.holds Try.pinned (OpenSpec.ofChange Rows.sumsJoinsSpec) :=
  OpenClaim.holds_of_wide 4 Try.f4 rfl rfl rfl rfl rfl rfl rfl ⟨rfl, rfl, rfl, rfl, rfl⟩ rfl rfl rfl rfl rfl (by kernel_rfl) Try.func4 (by kernel_rfl)
    (of_decide_eq_true (by kernel_rfl)) (by unfold Func.isWrapper; first | (rw [if_pos (by decide +kernel)]; kernel_rfl) | (rw [if_neg (by decide +kernel)]; exact ⟨rfl, rfl⟩))
    (fun os started H enc _ => lifted os started H enc)

/-- the statement -/
theorem proved : Rows.SumsJoinsSaid := over
#print axioms proved
end Go.Proofs.Ytomfbphlfifjdaa.sumsJoins
