/- The law of 'Rows.TcbNilSaid': for every input the call returns true and leaves its arguments as they were. No condition. -/
import Derived.Test.YtckfoekpibgdfaaRows
import Derived.WalkKit
import Derived.ProofKit
import Derived.OpenShut
import Derived.ChangeOld
import Derived.Below
import Derived.Deep.CutBlock
import Derived.Laws.BytesArg
import Derived.Deep.RegionHeld3
import Derived.Test.YtckfoekpibgdfaaTcbI
import Derived.Test.YtckfoekpibgdfaaTcbY
namespace Go.Proofs.Ytckfoekpibgdfaa.tcbNil
open Go.ChangeShapes Go.WideShapes Go.ChangeAt Go.RowKit
set_option linter.unusedVariables false
set_option linter.unusedSimpArgs false

theorem own : ownKnob Try.prog.godebug = none := by kernel_rfl
theorem laidOut : laidOutB Try.prog = true := by kernel_rfl


set_option maxRecDepth 100000 in
set_option maxHeartbeats 4000000 in
theorem walk (v0 : Value) (w : World) (s0 : Seen w 47 v0) :
    Calls Try.prog 5 #[v0] w fun e w' => e = .returned (.bool true) ∧ Below w.heap.size w w' := by
  obtain ⟨a, rfl, hab⟩ := Tc.seen_ac s0
  clear s0
  obtain ⟨k, n, pf, pt, sq, ak, fl, wi, ms, dat⟩ := a
  have hz := hab.z
  clear hab
  unfold Tc.Ac.enc
  simp only
  obtain ⟨rb, hrb⟩ : ∃ r, w.heap.size = r := ⟨_, rfl⟩
  obtain ⟨Wa, hWa, sa, qa, oa⟩ := made w _ hrb 47 #[.int .i64 k, .int .i64 n, .int .u16 pf, .int .u16 pt, .int .u32 sq, .int .u32 ak, .int .i64 fl, .int .u16 wi, .int .i64 ms, .string dat]
  have K0 := addB (start w) oa qa
  have HWA := Lib.hid hWa
  have HRB := Lib.hid hrb
  clear hWa sa qa oa hrb
  go_enter Try.func5, Try.ntmps5
  go_upto_region 1 with (fail)
  rw [← HWA.out]
  try rw [HRB.out]
  clear HWA
  go_wp2_with (fail)
  refine (Tc.alive_any _).mono ?_
  rintro e w1 ⟨rfl, ho1⟩
  have K1 := stay K0 ho1
  clear ho1 K0
  have c0 := Blk.cell K1.out.1 0
  have c1 := Blk.cell K1.out.1 1
  have c2 := Blk.cell K1.out.1 2
  have c3 := Blk.cell K1.out.1 3
  have c4 := Blk.cell K1.out.1 4
  have c5 := Blk.cell K1.out.1 5
  have c6 := Blk.cell K1.out.1 6
  have c7 := Blk.cell K1.out.1 7
  have c8 := Blk.cell K1.out.1 8
  have c9 := Blk.cell K1.out.1 9
  simp at c0 c1 c2 c3 c4 c5 c6 c7 c8 c9
  obtain ⟨q, hq⟩ : ∃ q, w1.heap.size = q := ⟨_, rfl⟩
  obtain ⟨Wb, hWb, sb, qb, ob⟩ := made w1 _ hq 47 #[.int .i64 k, .int .i64 n, .int .u16 pf, .int .u16 pt, .int .u32 sq, .int .u32 ak, .int .i64 fl, .int .u16 wi, .int .i64 ms, .string dat]
  have FR := Lib.hid (Tc.far_any Wb (some ⟨q, 0, none⟩) 1 [⟨k, n, pf, pt, sq, ak, fl, wi, ms, dat⟩] (Sl.of_blk qb rfl))
  simp only [List.length_cons, List.length_nil, Nat.zero_add] at FR
  have K2 := stay K1 ob
  have HWB := Lib.hid hWb
  have HQ := Lib.hid hq
  clear hWb sb qb ob hq
  go_wp2_with (fail)
  rw [← HWB.out]
  try rw [HQ.out]
  refine FR.out.mono ?_
  rintro e w' ⟨⟨b, rfl⟩, rfl⟩
  clear c0 c1 c2 c3 c4 c5 c6 c7 c8 c9 HWB
  have OF := Lib.hid (fun W => Tc.of_any ⟨k, n, pf, pt, sq, ak, fl, wi, ms, dat⟩ W (by show dat.size ≤ maxLen; exact hz))
  have d1 := Blk.cell K2.out.1 1
  have d2 := Blk.cell K2.out.1 2
  have d3 := Blk.cell K2.out.1 3
  have d4 := Blk.cell K2.out.1 4
  have d5 := Blk.cell K2.out.1 5
  have d6 := Blk.cell K2.out.1 6
  have d7 := Blk.cell K2.out.1 7
  have d8 := Blk.cell K2.out.1 8
  have d9 := Blk.cell K2.out.1 9
  simp at d1 d2 d3 d4 d5 d6 d7 d8 d9
  cases b
  · go_wp2_with (first | (go_at_call 11; refine (Tc.write_nil _ _).mono ?_; rintro e w' ⟨rfl, rfl⟩) | (go_at_call 15; refine (Tc.close_nil _).mono ?_; rintro e w' ⟨rfl, rfl⟩) | (go_at_call 14; refine (Tc.read_nil _).mono ?_; rintro e w' ⟨rfl, rfl⟩) | (go_at_call 16; refine (Tc.places_nil _).mono ?_; rintro e w' ⟨rfl, rfl⟩))
    refine (OF.out _).mono ?_
    rintro e w3 ⟨⟨B, cB, nB, rfl⟩, o3⟩
    have K3 := stay K2 o3
    clear o3
    go_wp2_with (fail)
    refine (Tc.come_nil' _ _ _ _ _ _ _ _ _ _ _).mono ?_
    rintro e w4 ⟨rfl, o4⟩
    have K4 := stay K3 o4
    clear o4
    go_wp2_with (first | (go_at_call 13; refine (Tc.tick_nil _).mono ?_; rintro e w' ⟨rfl, rfl⟩) | (go_at_call 18; refine (Tc.abort_nil _).mono ?_; rintro e w' ⟨rfl, rfl⟩) | (go_at_call 10; refine (Tc.state_nil _).mono ?_; rintro e w' ⟨rfl, rfl⟩) | (go_at_call 19; refine (Tc.done_nil _).mono ?_; rintro e w' ⟨rfl, rfl⟩))
    go_ret
    exact ⟨rfl, Only.none_below K4.out.2.1⟩
  · go_wp2_with (fail)
    go_ret
    exact ⟨rfl, Only.none_below K2.out.2.1⟩

set_option maxRecDepth 100000 in
theorem lifted (os : Os) (started : os.Started) (H : Type) (enc : TypeId × Value → H) :
    ReturnsInHanded {} Try.checked os 5 .any (Rows.tcbNilSpec.pre6 enc Try.prog Try.f5 Rows.tcbNilRow.domain false) (Rows.tcbNilSpec.post enc Try.prog Try.f5 false true false false) := by
  refine returnsInHanded_of_change (C := Try.checked) own started (by kernel_rfl) Try.func5
    (ChangeSpec.witness6 (enc := enc) (C := Try.checked) false ⟨#[], #[.agg #[.int .i64 0, .int .i64 0, .int .u16 0, .int .u16 0, .int .u32 0, .int .u32 0, .int .i64 0, .int .u16 0, .int .i64 0, .string ByteArray.empty]], []⟩ 8 (by kernel_rfl) (by kernel_rfl) (by kernel_rfl) (by kernel_rfl)) ?_
  intro W base args ds gs before hval0 hW hcnd _
  have hval : ∀ (j : Nat) t v, Try.f5.params[j]? = some t → args[j]? = some v → Value.okWide Try.prog W .any base t v := hval0
  have hW' := hW
  obtain ⟨p, q, hA0, hV, rfl, hfz, hnd⟩ := hW
  have hA : DataW.TrodAll enc Try.prog W 0 (fun _ => true) true Try.f5.params.toList args.toList ds p := hA0
  rw [Try.params5] at hA hval
  obtain ⟨v0, vs0, d0, ds0, p0, q0, hargs, rfl, rfl, h0, r0⟩ := trodAll_cons hA
  obtain ⟨rfl, rfl, rfl⟩ := trodAll_nil r0
  obtain rfl : args = #[v0] := by cases args; simp_all
  obtain ⟨rfl, rfl⟩ := trodVars_none hV
  have lt0 : ∀ x ∈ p0, x.block < W.heap.size := by obtain ⟨m, hm⟩ := h0; exact DataW.trod_lt m _ _ _ hm
  have s0 : Seen W 47 v0 := ⟨⟨base, hval 0 47 v0 rfl rfl⟩, H, enc, d0, p0, h0⟩
  clear hA0 hval0
  refine (walk v0 W s0).mono fun e W' ⟨he, bel⟩ => ?_
  subst he
  exact ⟨_, rfl, _, _, _, [], _, [], hW', trodAll_mk1 (shut_bool Try.underlying4 _), (trodAll_cons_mk (Below.trod laidOut (by kernel_rfl) (of_decide_eq_true (by kernel_rfl)) h0 bel lt0) trodAll_mk0), rfl, bel.frame _, fun h => by cases h⟩

theorem over : Rows.tcbNilRow.holds Try.pinned (OpenSpec.ofChange Rows.tcbNilSpec) :=
  OpenClaim.holds_of_wide 5 Try.f5 rfl rfl rfl rfl rfl rfl rfl ⟨rfl, rfl, rfl, rfl, rfl⟩ rfl rfl rfl rfl rfl (by kernel_rfl) Try.func5 (by kernel_rfl)
    (of_decide_eq_true (by kernel_rfl)) (by unfold Func.isWrapper; first | (rw [if_pos (by decide +kernel)]; kernel_rfl) | (rw [if_neg (by decide +kernel)]; exact ⟨rfl, rfl⟩))
    (fun os started H enc _ => lifted os started H enc)

/-- the statement -/
theorem proved : Rows.TcbNilSaid := over
#print axioms proved
end Go.Proofs.Ytckfoekpibgdfaa.tcbNil
