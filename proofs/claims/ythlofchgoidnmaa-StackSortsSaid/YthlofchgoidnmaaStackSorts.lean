/- The law of 'Rows.StackSortsSaid': for every input the call returns true and leaves its arguments as they were. No condition. -/
import Derived.Test.YthlofchgoidnmaaRows
import Derived.WalkKit
import Derived.ProofKit
import Derived.OpenShut
import Derived.ChangeOld
import Derived.Below
import Derived.Deep.CutBlock
import Derived.Laws.BytesArg
import Derived.Deep.RegionHeld3
import Derived.Test.YthlofchgoidnmaaStkT
import Derived.Test.YthlofchgoidnmaaStkU
namespace Go.Proofs.Ythlofchgoidnmaa.stackSorts
open Go.ChangeShapes Go.WideShapes Go.ChangeAt Go.RowKit
set_option linter.unusedVariables false
set_option linter.unusedSimpArgs false

theorem own : ownKnob Try.prog.godebug = none := by kernel_rfl
theorem laidOut : laidOutB Try.prog = true := by kernel_rfl

theorem eq_sg' (w : World) (fr to_ sq ak fl wi ms : Int) (b : ByteArray) : (binOp .eql 39 (.agg #[.int .u16 fr, .int .u16 to_, .int .u32 sq, .int .u32 ak, .int .i64 fl, .int .u16 wi, .int .i64 ms, .string b]) (.agg #[.int .u16 fr, .int .u16 to_, .int .u32 sq, .int .u32 ak, .int .i64 fl, .int .u16 wi, .int .i64 ms, .string b])).run Try.prog w = .ok (.bool true) w := by
  have h1 : Try.prog.stoodInHeld 39 = false := by kernel_rfl
  simp [go_sem, h1]
theorem eq_pe (w : World) (a b c : Int) : (binOp .eql 37 (.agg #[.int .u64 a, .int .u32 b, .int .u16 c]) (.agg #[.int .u64 a, .int .u32 b, .int .u16 c])).run Try.prog w = .ok (.bool true) w := by
  have h1 : Try.prog.stoodInHeld 37 = false := by kernel_rfl
  simp [go_sem, h1]
section
variable {w : World} {t g : Nat} {x0 x1 x2 x3 x4 x5 x6 x7 x8 x9 x10 x11 x12 : Value}
theorem Blk.q13 (h : Blk w g t #[x0, x1, x2, x3, x4, x5, x6, x7, x8, x9, x10, x11, x12]) : (∀ n os, (Sort.grow (redrawn w n) os).cell? ⟨g, 0, none⟩ = some x0) ∧ (∀ n os, (Sort.grow (redrawn w n) os).cell? ⟨g, 1, none⟩ = some x1) ∧ (∀ n os, (Sort.grow (redrawn w n) os).cell? ⟨g, 2, none⟩ = some x2) ∧ (∀ n os, (Sort.grow (redrawn w n) os).cell? ⟨g, 3, none⟩ = some x3) ∧ (∀ n os, (Sort.grow (redrawn w n) os).cell? ⟨g, 4, none⟩ = some x4) ∧ (∀ n os, (Sort.grow (redrawn w n) os).cell? ⟨g, 5, none⟩ = some x5) ∧ (∀ n os, (Sort.grow (redrawn w n) os).cell? ⟨g, 6, none⟩ = some x6) ∧ (∀ n os, (Sort.grow (redrawn w n) os).cell? ⟨g, 7, none⟩ = some x7) ∧ (∀ n os, (Sort.grow (redrawn w n) os).cell? ⟨g, 8, none⟩ = some x8) ∧ (∀ n os, (Sort.grow (redrawn w n) os).cell? ⟨g, 9, none⟩ = some x9) ∧ (∀ n os, (Sort.grow (redrawn w n) os).cell? ⟨g, 10, none⟩ = some x10) ∧ (∀ n os, (Sort.grow (redrawn w n) os).cell? ⟨g, 11, none⟩ = some x11) ∧ (∀ n os, (Sort.grow (redrawn w n) os).cell? ⟨g, 12, none⟩ = some x12) :=
  ⟨cell_regrown (h.cell 0), cell_regrown (h.cell 1), cell_regrown (h.cell 2), cell_regrown (h.cell 3), cell_regrown (h.cell 4), cell_regrown (h.cell 5), cell_regrown (h.cell 6), cell_regrown (h.cell 7), cell_regrown (h.cell 8), cell_regrown (h.cell 9), cell_regrown (h.cell 10), cell_regrown (h.cell 11), cell_regrown (h.cell 12)⟩
end

set_option maxRecDepth 100000 in
set_option maxHeartbeats 4000000 in
theorem walk (v0 : Value) (v1 : Value) (v2 : Value) (w : World) (s0 : Seen w 25 v0) (s1 : Seen w 26 v1) (s2 : Seen w 9 v2) :
    Calls Try.prog 3 #[v0, v1, v2] w fun e w' => e = .returned (.bool true) ∧ Below w.heap.size w w' := by
  obtain ⟨mac, ip, rfl, hH⟩ := seen_hs s0
  obtain ⟨port, rfl, h1⟩ := s1.int (k := .u16) Try.underlying26
  obtain ⟨s, rfl, hd⟩ := s2.str Try.underlying9
  have HG := Lib.hid hH
  have pp0 := (u16_bd h1).1
  have pp1 := (u16_bd h1).2
  clear s0 s1 s2 h1 hH
  unfold maxLen at hd
  obtain ⟨rb, hrb⟩ : ∃ r, w.heap.size = r := ⟨_, rfl⟩
  obtain ⟨Wa, hWa, sa, qa, oa⟩ := made w _ hrb 25 #[.int .u64 mac, .int .u32 ip]
  have K0 := addB (start w) oa qa
  have HWA := Lib.hid hWa
  have HRB := Lib.hid hrb
  clear hWa sa qa oa hrb
  go_enter Try.func3, Try.ntmps3
  go_upto_region 1 with (fail)
  rw [← HWA.out]
  try rw [HRB.out]
  clear HWA
  go_wp2_with (fail)
  refine (stk_alive _).mono ?_
  rintro e w1 ⟨rfl, ho1⟩
  have K1 := stay K0 ho1
  clear ho1 K0
  by_cases h9 : 2000 < s.size
  · go_wp2_with (fail)
    try go_ret
    exact ⟨rfl, Only.none_below K1.out.2.1⟩
  have SA := Lib.hid (fun A c w hb => sort_any mac ip port A s.size c (codes s) w HG.out pp0 pp1 hb (by omega))
  have SB := Lib.hid (fun w => rsort_any mac ip port s w HG.out (by omega))
  generalize sortF mac ip port (codes s) = X at *
  obtain ⟨k, pm, pi, pp, ⟨fr, to_, sq, ak, fl, wi, ms⟩, l, r⟩ := X
  unfold SoPost sov at SA
  unfold RSoPost sov at SB
  simp only at SA SB
  have kc := fun w s => Lib.run_convert_string_bytes (P := Try.prog) w 9 30 5 s Try.underlying9 Try.underlying30 Try.underlying5
  obtain ⟨c0, c1⟩ := Blk.c2 K1.out.1
  go_wp2_with (fail)
  refine (SA.out _ _ _ (byt_bytesWorld w1 s)).mono ?_
  rintro e w2 ⟨A2, c2, B2, d2, rfl, hb2, hr2, ho2⟩
  have K2 := addY (addY K1 ((only_bytesWorld w1 5 s).then ho2) hb2) (Only.refl _ _) hr2
  clear ho2 hb2 hr2 K1 c0 c1 SA kc
  obtain ⟨ga, hga⟩ : ∃ g, w2.heap.size = g := ⟨_, rfl⟩
  obtain ⟨W3, hW3, s3', q3', o3⟩ := made w2 _ hga 34 #[.int .i64 k, .int .u64 pm, .int .u32 pi, .int .u16 pp, .int .u16 fr, .int .u16 to_, .int .u32 sq, .int .u32 ak, .int .i64 fl, .int .u16 wi, .int .i64 ms, .slice A2 l.length c2, .slice B2 r.length d2]
  have K3 := addB K2 o3 q3'
  have HW3 := Lib.hid hW3
  have HGA := Lib.hid hga
  clear hW3 s3' q3' o3 hga K2
  go_upto_region 6 with (fail)
  rw [← HW3.out]
  try rw [HGA.out]
  clear HW3
  obtain ⟨c0, c1⟩ := Blk.c2 K3.out.2.2.2.1
  go_wp2_with (fail)
  refine (SB.out _).mono ?_
  rintro e w4 ⟨rfl, ho4⟩
  have K4 := stay K3 ho4
  clear ho4 K3 c0 c1 SB
  obtain ⟨gb', hgb⟩ : ∃ g, w4.heap.size = g := ⟨_, rfl⟩
  obtain ⟨W5, hW5, s5, q5, o5⟩ := made w4 _ hgb 41 #[.int .i64 k, .int .u64 pm, .int .u32 pi, .int .u16 pp, .int .u16 fr, .int .u16 to_, .int .u32 sq, .int .u32 ak, .int .i64 fl, .int .u16 wi, .int .i64 ms, .string (strOfNums l), .string (strOfNums r)]
  have K5 := addB K4 o5 q5
  have HW5 := Lib.hid hW5
  have HGB := Lib.hid hgb
  clear hW5 s5 q5 o5 hgb K4
  go_upto_region 7 with (fail)
  rw [← HW5.out]
  try rw [HGB.out]
  clear HW5
  obtain ⟨x0, x1, x2, x3, x4, x5, x6, x7, x8, x9, x10, x11, x12⟩ := Blk.q13 K5.out.1
  obtain ⟨y0, y1, y2, y3, y4, y5, y6, y7, y8, y9, y10, y11, y12⟩ := Blk.q13 K5.out.2.1
  have TO := Lib.hid (fun dd os => sto_any ⟨fr, to_, sq, ak, fl, wi, ms⟩ A2 l.length c2 l (Sort.grow (redrawn W5 dd) os) (stayG K5 dd os).out.2.2.2.1)
  unfold sgv at TO
  simp only at TO
  have kr := fun dd os => conv_bs (c := d2) (stayG K5 dd os).out.2.2.1 30 9 Try.underlying30 Try.underlying5 Try.underlying9
  have kn := fun w => eq_sg' w fr to_ sq ak fl wi ms (strOfNums l)
  have kp := fun w => eq_pe w pm pi pp
  refine wp_region_quiet_below (by kernel_rfl) (by kernel_rfl) ?_
  repeat (first | go_big_quiet_step ((go_at_call 11; exact Calls.regrown_of ((TO.out _ _).mono fun e w' h => ⟨h.1, h.2.none_below⟩))))
  refine wpQuiet_nil ?_
  intro _ hw'
  obtain ⟨⟨dd, os⟩, hw''⟩ := hw'
  subst hw''
  have K7 := stayG K5 dd os
  generalize Sort.grow (redrawn W5 dd) os = U at *
  go_wp2_with (fail)
  try go_ret
  exact ⟨by simp, Only.none_below K7.out.2.2.2.2.2.1⟩

set_option maxRecDepth 100000 in
theorem lifted (os : Os) (started : os.Started) (H : Type) (enc : TypeId × Value → H) :
    ReturnsInHanded {} Try.checked os 3 .any (Rows.stackSortsSpec.pre6 enc Try.prog Try.f3 Rows.stackSortsRow.domain false) (Rows.stackSortsSpec.post enc Try.prog Try.f3 false true false false) := by
  refine returnsInHanded_of_change (C := Try.checked) own started (by kernel_rfl) Try.func3
    (ChangeSpec.witness6 (enc := enc) (C := Try.checked) false ⟨#[], #[.agg #[.int .u64 0, .int .u32 0], .int .u16 0, .string ByteArray.empty], []⟩ 8 (by kernel_rfl) (by kernel_rfl) (by kernel_rfl) (by kernel_rfl)) ?_
  intro W base args ds gs before hval0 hW hcnd _
  have hval : ∀ (j : Nat) t v, Try.f3.params[j]? = some t → args[j]? = some v → Value.okWide Try.prog W .any base t v := hval0
  have hW' := hW
  obtain ⟨p, q, hA0, hV, rfl, hfz, hnd⟩ := hW
  have hA : DataW.TrodAll enc Try.prog W 0 (fun _ => true) true Try.f3.params.toList args.toList ds p := hA0
  rw [Try.params3] at hA hval
  obtain ⟨v0, vs0, d0, ds0, p0, q0, hargs, rfl, rfl, h0, r0⟩ := trodAll_cons hA
  obtain ⟨v1, vs1, d1, ds1, p1, q1, rfl, rfl, rfl, h1, r1⟩ := trodAll_cons r0
  obtain ⟨v2, vs2, d2, ds2, p2, q2, rfl, rfl, rfl, h2, r2⟩ := trodAll_cons r1
  obtain ⟨rfl, rfl, rfl⟩ := trodAll_nil r2
  obtain rfl : args = #[v0, v1, v2] := by cases args; simp_all
  obtain ⟨rfl, rfl⟩ := trodVars_none hV
  have lt0 : ∀ x ∈ p0, x.block < W.heap.size := by obtain ⟨m, hm⟩ := h0; exact DataW.trod_lt m _ _ _ hm
  have s0 : Seen W 25 v0 := ⟨⟨base, hval 0 25 v0 rfl rfl⟩, H, enc, d0, p0, h0⟩
  have lt1 : ∀ x ∈ p1, x.block < W.heap.size := by obtain ⟨m, hm⟩ := h1; exact DataW.trod_lt m _ _ _ hm
  have s1 : Seen W 26 v1 := ⟨⟨base, hval 1 26 v1 rfl rfl⟩, H, enc, d1, p1, h1⟩
  have lt2 : ∀ x ∈ p2, x.block < W.heap.size := by obtain ⟨m, hm⟩ := h2; exact DataW.trod_lt m _ _ _ hm
  have s2 : Seen W 9 v2 := ⟨⟨base, hval 2 9 v2 rfl rfl⟩, H, enc, d2, p2, h2⟩
  clear hA0 hval0
  refine (walk v0 v1 v2 W s0 s1 s2).mono fun e W' ⟨he, bel⟩ => ?_
  subst he
  exact ⟨_, rfl, _, _, _, [], _, [], hW', trodAll_mk1 (shut_bool Try.underlying4 _), (trodAll_cons_mk (Below.trod laidOut (by kernel_rfl) (of_decide_eq_true (by kernel_rfl)) h0 bel lt0) (trodAll_cons_mk (Below.trod laidOut (by kernel_rfl) (of_decide_eq_true (by kernel_rfl)) h1 bel lt1) (trodAll_cons_mk (Below.trod laidOut (by kernel_rfl) (of_decide_eq_true (by kernel_rfl)) h2 bel lt2) trodAll_mk0))), rfl, bel.frame _, fun h => by cases h⟩

theorem over : Rows.stackSortsRow.holds Try.pinned (OpenSpec.ofChange Rows.stackSortsSpec) :=
  OpenClaim.holds_of_wide 3 Try.f3 rfl rfl rfl rfl rfl rfl rfl ⟨rfl, rfl, rfl, rfl, rfl⟩ rfl rfl rfl rfl rfl (by kernel_rfl) Try.func3 (by kernel_rfl)
    (of_decide_eq_true (by kernel_rfl)) (by unfold Func.isWrapper; first | (rw [if_pos (by decide +kernel)]; kernel_rfl) | (rw [if_neg (by decide +kernel)]; exact ⟨rfl, rfl⟩))
    (fun os started H enc _ => lifted os started H enc)

/-- the statement -/
theorem proved : Rows.StackSortsSaid := over
#print axioms proved
end Go.Proofs.Ythlofchgoidnmaa.stackSorts
