/- The law of 'Rows.IcmpBytesSaid': for every input the call returns true and leaves its arguments as they were. No condition. -/
import Derived.Test.YtkadpmpbhpbljaaRows
import Derived.WalkKit
import Derived.ProofKit
import Derived.OpenShut
import Derived.ChangeOld
import Derived.Below
import Derived.Deep.CutBlock
import Derived.Laws.BytesArg
import Derived.Test.YtkadpmpbhpbljaaIcmpU
namespace Go.Proofs.Ytkadpmpbhpbljaa.icmpBytes
open Go.ChangeShapes Go.WideShapes Go.ChangeAt Go.RowKit
set_option linter.unusedVariables false

theorem own : ownKnob Try.prog.godebug = none := by kernel_rfl
theorem laidOut : laidOutB Try.prog = true := by kernel_rfl


set_option maxRecDepth 100000 in
set_option maxHeartbeats 4000000 in
theorem walk (v0 : Value) (v1 : Value) (w : World) (s0 : Seen w 24 v0) (s1 : Seen w 9 v1) :
    Calls Try.prog 3 #[v0, v1] w fun e w' => e = .returned (.bool true) ∧ Below w.heap.size w w' := by
  obtain ⟨ty, id, sq, b, rfl, hB, hbm⟩ := seen_echo s0
  obtain ⟨s, rfl, hsm⟩ := s1.str Try.underlying9
  unfold maxLen at hbm hsm
  have HB := Lib.hid hB
  clear s0 s1 hB
  have kc := fun w s => Lib.run_convert_string_bytes (P := Try.prog) w 9 26 5 s Try.underlying9 Try.underlying26 Try.underlying5
  obtain ⟨pb, hpb⟩ : ∃ x, w.heap.size = x := ⟨_, rfl⟩
  obtain ⟨W0, hW0, sW0, q0, o0⟩ := made w _ hpb 24 #[.int .i64 ty, .int .u16 id, .int .u16 sq, .string b]
  have K0 := addB (start w) o0 q0
  have HW0 := Lib.hid hW0
  clear hW0 sW0 q0 o0
  go_enter Try.func3, Try.ntmps3
  go_upto_region 1 with (fail)
  rw [← HW0.out]
  try rw [hpb]
  clear HW0 hpb
  go_wp2_with (fail)
  refine (alive_any _).mono ?_
  rintro e w1 ⟨rfl, ho1⟩
  have K1 := stay K0 ho1
  obtain ⟨d0, d1, d2, d3⟩ := Blk.c4 K1.out.1
  clear ho1 K0
  by_cases h1 : 3000 < b.size
  · go_wp2_with (fail)
    go_ret
    exact ⟨rfl, Only.none_below K1.out.2.1⟩
  by_cases h2 : 3000 < s.size
  · go_wp2_with (fail)
    go_ret
    exact ⟨rfl, Only.none_below K1.out.2.1⟩
  go_wp2_with (fail)
  refine (iof_any ty id sq b _ (by omega)).mono ?_
  rintro e w2 ⟨A2, c2, rfl, hb2, -, -, ho2⟩
  have K2 := addY K1 ho2 hb2
  clear ho2 hb2 d0 d1 d2 d3 K1
  go_wp2_with (fail)
  refine (ibytes_any ty id sq A2 b.size c2 (codes b) _ HB.out K2.out.1).mono ?_
  rintro e w3 ⟨A3, c3, rfl, hb3, -, -, ho3⟩
  have K3 := addY (less K2) ho3 hb3
  have RB := Lib.hid (fun w => ribytes_any ty id sq b w HB.out)
  obtain ⟨d0, d1, d2, d3⟩ := Blk.c4 K3.out.2.1
  clear ho3 hb3 K2
  generalize ibX ty id sq (codes b) = L at *
  generalize ibE ty b.size = E at *
  go_wp2_with (fail)
  refine (RB.out _).mono ?_
  rintro e w4 ⟨rfl, ho4⟩
  have K4 := stay (stay K3 ho4) (only_bytesWorld w4 5 s)
  have IP := Lib.hid (iparse_any _ s.size (grownCap w4 s.size 0 5) (codes s) _ (byt_bytesWorld w4 s) (by omega))
  have RP := Lib.hid (fun w => riparse_any s w (by omega))
  clear ho4 K3 d0 d1 d2 d3 RB
  generalize ipF (codes s) = p at *
  obtain ⟨pty, pid, psq, pl, pe⟩ := p
  unfold IPPost at IP
  unfold RIPPost at RP
  simp only at IP RP
  go_wp2_with (fail)
  refine IP.out.mono ?_
  rintro e w5 ⟨B, cb, rfl, hb5, -, -, ho5⟩
  have K5 := addY K4 ho5 hb5
  clear ho5 hb5 K4 IP
  go_upto_region 8 with (fail)
  obtain ⟨qb, hqb⟩ : ∃ x, w5.heap.size = x := ⟨_, rfl⟩
  obtain ⟨W, hW, -, q6, o6⟩ := made w5 _ hqb 31 #[.int .i64 pty, .int .u16 pid, .int .u16 psq, .slice B pl.length cb]
  rw [← hW]
  try rw [hqb]
  have K6 := addB K5 o6 q6
  clear hW q6 o6 hqb K5
  go_wp2_with (fail)
  refine (RP.out _).mono ?_
  rintro e w7 ⟨rfl, ho7⟩
  have K7 := stay K6 ho7
  clear ho7 K6 RP
  go_upto_region 9 with (fail)
  obtain ⟨rb, hrb⟩ : ∃ x, w7.heap.size = x := ⟨_, rfl⟩
  obtain ⟨V, hV, -, q8, o8⟩ := made w7 _ hrb 24 #[.int .i64 pty, .int .u16 pid, .int .u16 psq, .string (strOfNums pl)]
  rw [← hV]
  try rw [hrb]
  have K8 := addB K7 o8 q8
  clear hV q8 o8 hrb K7
  obtain ⟨g0, g1, g2, g3⟩ := Blk.r4 K8.out.1
  obtain ⟨r0, r1, r2, r3⟩ := Blk.r4 K8.out.2.1
  have k3 := fun d os => conv_bs (w := Sort.grow (redrawn V d) os) (A := A3) (n := L.length) (c := c3) (cs := L) (stayG K8 d os).out.2.2.2.1 26 9 Try.underlying26 Try.underlying5 Try.underlying9
  have TO := Lib.hid (fun d os => ito_any pty pid psq B pl.length cb pl _ (stayG K8 d os).out.2.2.1)
  have ke := fun d os => eq_echo (Sort.grow (redrawn V d) os) pty pid psq (strOfNums pl)
  generalize strOfNums pl = stp at *
  generalize strOfNums L = stL at *
  refine wp_region_quiet_below (by kernel_rfl) (by kernel_rfl) ?_
  repeat (first | go_big_quiet_step ((go_at_call 12; exact Calls.regrown_of ((TO.out _ _).mono fun e w' h => ⟨h.1, h.2.none_below⟩))))
  refine wpQuiet_nil ?_
  intro _ hw'
  obtain ⟨⟨d, os⟩, hw''⟩ := hw'
  subst hw''
  have KF := stayG K8 d os
  generalize Sort.grow (redrawn V d) os = U at *
  clear g0 g1 g2 g3 r0 r1 r2 r3 k3 TO ke
  go_wp2_with (fail)
  go_ret
  exact ⟨rfl, Only.none_below KF.out.2.2.2.2.2.1⟩

set_option maxRecDepth 100000 in
theorem lifted (os : Os) (started : os.Started) (H : Type) (enc : TypeId × Value → H) :
    ReturnsInHanded {} Try.checked os 3 .any (Rows.icmpBytesSpec.pre6 enc Try.prog Try.f3 Rows.icmpBytesRow.domain false) (Rows.icmpBytesSpec.post enc Try.prog Try.f3 false true false false) := by
  refine returnsInHanded_of_change (C := Try.checked) own started (by kernel_rfl) Try.func3
    (ChangeSpec.witness6 (enc := enc) (C := Try.checked) false ⟨#[], #[.agg #[.int .i64 0, .int .u16 0, .int .u16 0, .string ByteArray.empty], .string ByteArray.empty], []⟩ 8 (by kernel_rfl) (by kernel_rfl) (by kernel_rfl) (by kernel_rfl)) ?_
  intro W base args ds gs before hval0 hW hcnd _
  have hval : ∀ (j : Nat) t v, Try.f3.params[j]? = some t → args[j]? = some v → Value.okWide Try.prog W .any base t v := hval0
  have hW' := hW
  obtain ⟨p, q, hA0, hV, rfl, hfz, hnd⟩ := hW
  have hA : DataW.TrodAll enc Try.prog W 0 (fun _ => true) true Try.f3.params.toList args.toList ds p := hA0
  rw [Try.params3] at hA hval
  obtain ⟨v0, vs0, d0, ds0, p0, q0, hargs, rfl, rfl, h0, r0⟩ := trodAll_cons hA
  obtain ⟨v1, vs1, d1, ds1, p1, q1, rfl, rfl, rfl, h1, r1⟩ := trodAll_cons r0
  obtain ⟨rfl, rfl, rfl⟩ := trodAll_nil r1
  obtain rfl : args = #[v0, v1] := by cases args; simp_all
  obtain ⟨rfl, rfl⟩ := trodVars_none hV
  have lt0 : ∀ x ∈ p0, x.block < W.heap.size := by obtain ⟨m, hm⟩ := h0; exact DataW.trod_lt m _ _ _ hm
  have s0 : Seen W 24 v0 := ⟨⟨base, hval 0 24 v0 rfl rfl⟩, H, enc, d0, p0, h0⟩
  have lt1 : ∀ x ∈ p1, x.block < W.heap.size := by obtain ⟨m, hm⟩ := h1; exact DataW.trod_lt m _ _ _ hm
  have s1 : Seen W 9 v1 := ⟨⟨base, hval 1 9 v1 rfl rfl⟩, H, enc, d1, p1, h1⟩
  clear hA0 hval0
  refine (walk v0 v1 W s0 s1).mono fun e W' ⟨he, bel⟩ => ?_
  subst he
  exact ⟨_, rfl, _, _, _, [], _, [], hW', trodAll_mk1 (shut_bool Try.underlying4 _), (trodAll_cons_mk (Below.trod laidOut (by kernel_rfl) (of_decide_eq_true (by kernel_rfl)) h0 bel lt0) (trodAll_cons_mk (Below.trod laidOut (by kernel_rfl) (of_decide_eq_true (by kernel_rfl)) h1 bel lt1) trodAll_mk0)), rfl, bel.frame _, fun h => by cases h⟩

theorem over : Rows.icmpBytesRow.holds Try.pinned (OpenSpec.ofChange Rows.icmpBytesSpec) :=
  OpenClaim.holds_of_wide 3 Try.f3 rfl rfl rfl rfl rfl rfl rfl ⟨rfl, rfl, rfl, rfl, rfl⟩ rfl rfl rfl rfl rfl (by kernel_rfl) Try.func3 (by kernel_rfl)
    (of_decide_eq_true (by kernel_rfl)) (by unfold Func.isWrapper; first | (rw [if_pos (by decide +kernel)]; kernel_rfl) | (rw [if_neg (by decide +kernel)]; exact ⟨rfl, rfl⟩))
    (fun os started H enc _ => lifted os started H enc)

/-- the statement -/
theorem proved : Rows.IcmpBytesSaid := over
#print axioms proved
end Go.Proofs.Ytkadpmpbhpbljaa.icmpBytes
