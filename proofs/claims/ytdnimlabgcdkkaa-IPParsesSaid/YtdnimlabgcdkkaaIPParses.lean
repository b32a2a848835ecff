/- The law of 'Rows.IPParsesSaid': for every input the call returns true and leaves its arguments as they were. No condition. -/
import Derived.Test.YtdnimlabgcdkkaaRows
import Derived.WalkKit
import Derived.ProofKit
import Derived.OpenShut
import Derived.ChangeOld
import Derived.Below
import Derived.Deep.CutBlock
import Derived.Laws.BytesArg
import Derived.Test.YtdnimlabgcdkkaaIpU
namespace Go.Proofs.Ytdnimlabgcdkkaa.iPParses
open Go.ChangeShapes Go.WideShapes Go.ChangeAt Go.RowKit
set_option linter.unusedVariables false

theorem own : ownKnob Try.prog.godebug = none := by kernel_rfl
theorem laidOut : laidOutB Try.prog = true := by kernel_rfl


set_option maxRecDepth 100000 in
set_option maxHeartbeats 4000000 in
theorem walk (v0 : Value) (w : World) (s0 : Seen w 9 v0) :
    Calls Try.prog 4 #[v0] w fun e w' => e = .returned (.bool true) ∧ Below w.heap.size w w' := by
  obtain ⟨s, rfl, hsm⟩ := s0.str Try.underlying9
  unfold maxLen at hsm
  clear s0
  have kc := fun w s => Lib.run_convert_string_bytes (P := Try.prog) w 9 27 5 s Try.underlying9 Try.underlying27 Try.underlying5
  go_enter Try.func4, Try.ntmps4
  go_wp2_with (fail)
  refine (alive_any _).mono ?_
  rintro e w1 ⟨rfl, ho1⟩
  have K1 := stay (start w) ho1
  clear ho1
  by_cases h1 : 3000 < s.size
  · go_wp2_with (fail)
    go_ret
    exact ⟨rfl, Only.none_below K1.out.1⟩
  have cv := Mid.of_conv (base := w1.heap.size) w1 s (by unfold maxLen; omega) (Nat.le_refl _)
  have K2 := stay K1 (only_bytesWorld w1 5 s)
  have QP := Lib.hid (qparse_any _ s.size (grownCap w1 s.size 0 5) (codes s) _ (byt_bytesWorld w1 s) (by omega) cv.le cv.cm)
  have RP := Lib.hid (fun w => rqparse_any s w (by omega))
  clear cv K1
  generalize qF (codes s) = p at *
  obtain ⟨id, ttl, pr, src, dst, l, pe⟩ := p
  unfold IQPost at QP
  unfold RIQPost at RP
  simp only at QP RP
  go_wp2_with (fail)
  refine QP.out.mono ?_
  rintro e w3 ⟨B, cb, rfl, hb3, -, -, ho3⟩
  have K3 := addY K2 ho3 hb3
  clear ho3 hb3 K2 QP
  go_upto_region 6 with (fail)
  obtain ⟨qb, hqb⟩ : ∃ x, w3.heap.size = x := ⟨_, rfl⟩
  obtain ⟨W, hW, -, q6, o6⟩ := made w3 _ hqb 32 #[.int .u16 id, .int .u8 ttl, .int .u8 pr, .int .u32 src, .int .u32 dst, .slice B l.length cb]
  rw [← hW]
  try rw [hqb]
  have K4 := addB K3 o6 q6
  clear hW q6 o6 hqb K3
  go_wp2_with (fail)
  refine (RP.out _).mono ?_
  rintro e w5 ⟨rfl, ho5⟩
  have K5 := stay K4 ho5
  clear ho5 K4 RP
  go_upto_region 7 with (fail)
  obtain ⟨rb, hrb⟩ : ∃ x, w5.heap.size = x := ⟨_, rfl⟩
  obtain ⟨V, hV, -, q8, o8⟩ := made w5 _ hrb 25 #[.int .u16 id, .int .u8 ttl, .int .u8 pr, .int .u32 src, .int .u32 dst, .string (strOfNums l)]
  rw [← hV]
  try rw [hrb]
  have K8 := addB K5 o8 q8
  clear hV q8 o8 hrb K5
  obtain ⟨g0, g1, g2, g3, g4, g5⟩ := Blk.r6 K8.out.1
  obtain ⟨r0, r1, r2, r3, r4, r5⟩ := Blk.r6 K8.out.2.1
  have TO := Lib.hid (fun d os => qto_any id ttl pr src dst B l.length cb l _ (stayG K8 d os).out.2.2.1)
  have ke := fun d os => eq_ip (Sort.grow (redrawn V d) os) id ttl pr src dst (strOfNums l)
  generalize strOfNums l = stl at *
  refine wp_region_quiet_below (by kernel_rfl) (by kernel_rfl) ?_
  repeat (first | go_big_quiet_step ((go_at_call 16; exact Calls.regrown_of ((TO.out _ _).mono fun e w' h => ⟨h.1, h.2.none_below⟩))))
  refine wpQuiet_nil ?_
  intro _ hw'
  obtain ⟨⟨d, os⟩, hw''⟩ := hw'
  subst hw''
  have KF := stayG K8 d os
  generalize Sort.grow (redrawn V d) os = U at *
  clear g0 g1 g2 g3 g4 g5 r0 r1 r2 r3 r4 r5 TO ke
  go_wp2_with (fail)
  go_ret
  exact ⟨rfl, Only.none_below KF.out.2.2.2.1⟩

set_option maxRecDepth 100000 in
theorem lifted (os : Os) (started : os.Started) (H : Type) (enc : TypeId × Value → H) :
    ReturnsInHanded {} Try.checked os 4 .any (Rows.iPParsesSpec.pre6 enc Try.prog Try.f4 Rows.iPParsesRow.domain false) (Rows.iPParsesSpec.post enc Try.prog Try.f4 false true false false) := by
  refine returnsInHanded_of_change (C := Try.checked) own started (by kernel_rfl) Try.func4
    (ChangeSpec.witness6 (enc := enc) (C := Try.checked) false ⟨#[], #[.string ByteArray.empty], []⟩ 8 (by kernel_rfl) (by kernel_rfl) (by kernel_rfl) (by kernel_rfl)) ?_
  intro W base args ds gs before hval0 hW hcnd _
  have hval : ∀ (j : Nat) t v, Try.f4.params[j]? = some t → args[j]? = some v → Value.okWide Try.prog W .any base t v := hval0
  have hW' := hW
  obtain ⟨p, q, hA0, hV, rfl, hfz, hnd⟩ := hW
  have hA : DataW.TrodAll enc Try.prog W 0 (fun _ => true) true Try.f4.params.toList args.toList ds p := hA0
  rw [Try.params4] at hA hval
  obtain ⟨v0, vs0, d0, ds0, p0, q0, hargs, rfl, rfl, h0, r0⟩ := trodAll_cons hA
  obtain ⟨rfl, rfl, rfl⟩ := trodAll_nil r0
  obtain rfl : args = #[v0] := by cases args; simp_all
  obtain ⟨rfl, rfl⟩ := trodVars_none hV
  have lt0 : ∀ x ∈ p0, x.block < W.heap.size := by obtain ⟨m, hm⟩ := h0; exact DataW.trod_lt m _ _ _ hm
  have s0 : Seen W 9 v0 := ⟨⟨base, hval 0 9 v0 rfl rfl⟩, H, enc, d0, p0, h0⟩
  clear hA0 hval0
  refine (walk v0 W s0).mono fun e W' ⟨he, bel⟩ => ?_
  subst he
  exact ⟨_, rfl, _, _, _, [], _, [], hW', trodAll_mk1 (shut_bool Try.underlying4 _), (trodAll_cons_mk (Below.trod laidOut (by kernel_rfl) (of_decide_eq_true (by kernel_rfl)) h0 bel lt0) trodAll_mk0), rfl, bel.frame _, fun h => by cases h⟩

theorem over : Rows.iPParsesRow.holds Try.pinned (OpenSpec.ofChange Rows.iPParsesSpec) :=
  OpenClaim.holds_of_wide 4 Try.f4 rfl rfl rfl rfl rfl rfl rfl ⟨rfl, rfl, rfl, rfl, rfl⟩ rfl rfl rfl rfl rfl (by kernel_rfl) Try.func4 (by kernel_rfl)
    (of_decide_eq_true (by kernel_rfl)) (by unfold Func.isWrapper; first | (rw [if_pos (by decide +kernel)]; kernel_rfl) | (rw [if_neg (by decide +kernel)]; exact ⟨rfl, rfl⟩))
    (fun os started H enc _ => lifted os started H enc)

/-- the statement -/
theorem proved : Rows.IPParsesSaid := over
#print axioms proved
end Go.Proofs.Ytdnimlabgcdkkaa.iPParses
