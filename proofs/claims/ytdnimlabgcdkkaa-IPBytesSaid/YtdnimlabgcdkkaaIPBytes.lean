/- The law of 'Rows.IPBytesSaid': for every input the call returns true and leaves its arguments as they were. No condition. -/
import Derived.Test.YtdnimlabgcdkkaaRows
import Derived.WalkKit
import Derived.ProofKit
import Derived.OpenShut
import Derived.ChangeOld
import Derived.Below
import Derived.Deep.CutBlock
import Derived.Laws.BytesArg
import Derived.Test.YtdnimlabgcdkkaaIpU
namespace Go.Proofs.Ytdnimlabgcdkkaa.iPBytes
open Go.ChangeShapes Go.WideShapes Go.ChangeAt Go.RowKit
set_option linter.unusedVariables false

theorem own : ownKnob Try.prog.godebug = none := by kernel_rfl
theorem laidOut : laidOutB Try.prog = true := by kernel_rfl


set_option maxRecDepth 100000 in
set_option maxHeartbeats 4000000 in
theorem walk (v0 : Value) (v1 : Value) (w : World) (s0 : Seen w 25 v0) (s1 : Seen w 3 v1) :
    Calls Try.prog 3 #[v0, v1] w fun e w' => e = .returned (.bool true) ∧ Below w.heap.size w w' := by
  obtain ⟨id, ttl, pr, src, dst, b, rfl, hP, hbm⟩ := seen_ip s0
  obtain ⟨n, rfl, hn⟩ := s1.int (k := .i64) Try.underlying3
  unfold maxLen at hbm
  have HP := Lib.hid hP
  clear s0 s1 hP hn
  obtain ⟨pb, hpb⟩ : ∃ x, w.heap.size = x := ⟨_, rfl⟩
  obtain ⟨W0, hW0, sW0, q0, o0⟩ := made w _ hpb 25 #[.int .u16 id, .int .u8 ttl, .int .u8 pr, .int .u32 src, .int .u32 dst, .string b]
  have K0 := addB (start w) o0 q0
  have HW0 := Lib.hid hW0
  clear hW0 sW0 q0 o0
  go_enter Try.func3, Try.ntmps3
  go_upto_region 1 with (fail)
  rw [← HW0.out]
  try rw [hpb]
  clear HW0 hpb
  go_wp2_with (fail)
  refine (alive_any _).mono ?_
  rintro e w1 ⟨rfl, ho1⟩
  have K1 := stay K0 ho1
  obtain ⟨d0, d1, d2, d3, d4, d5⟩ := Blk.c6 K1.out.1
  clear ho1 K0
  by_cases h1 : 3000 < b.size
  · go_wp2_with (fail)
    go_ret
    exact ⟨rfl, Only.none_below K1.out.2.1⟩
  go_wp2_with (fail)
  refine (qof_any id ttl pr src dst b _ (by omega)).mono ?_
  rintro e w2 ⟨A2, c2, rfl, hb2, -, -, ho2⟩
  have K2 := stay K1 ho2
  clear ho2 hb2 d0 d1 d2 d3 d4 d5 K1
  have HU := Lib.hid (fun A m c w => head_u id ttl pr src dst n A m c w HP.out)
  have BU := Lib.hid (fun A c w hb => bytes_u id ttl pr src dst A c b w HP.out hb (by omega))
  have RH := Lib.hid (fun w => rhead_any id ttl pr src dst n b w HP.out)
  have RB := Lib.hid (fun w => rbytes_any id ttl pr src dst b w HP.out (by omega))
  unfold pkv at HU BU RH RB
  generalize rhS id ttl pr src dst n = L1 at *
  generalize rbS id ttl pr src dst b = L2 at *
  generalize rhE n = E1 at *
  generalize rhE b.size = E2 at *
  unfold IUPost at HU BU
  go_wp2_with (fail)
  refine (HU.out _ _ _ _).mono ?_
  rintro e w3 ⟨A3, n3, c3, cs3, rfl, hb3, -, -, hs3, ho3⟩
  have K3 := addY K2 ho3 hb3
  have S3 := Lib.hid hs3
  clear ho3 hb3 hs3 K2 HU
  obtain ⟨d0, d1, d2, d3, d4, d5⟩ := Blk.c6 K3.out.2.1
  go_wp2_with (fail)
  refine (qof_any id ttl pr src dst b _ (by omega)).mono ?_
  rintro e w4 ⟨A4, c4, rfl, hb4, -, -, ho4⟩
  have K4 := stay K3 ho4
  have Y4 := Lib.hid hb4
  clear ho4 hb4 d0 d1 d2 d3 d4 d5 K3
  go_wp2_with (fail)
  refine (BU.out _ _ _ Y4.out).mono ?_
  rintro e w5 ⟨A5, n5, c5, cs5, rfl, hb5, -, -, hs5, ho5⟩
  have K5 := addY K4 ho5 hb5
  have S5 := Lib.hid hs5
  clear ho5 hb5 hs5 K4 BU Y4
  obtain ⟨d0, d1, d2, d3, d4, d5⟩ := Blk.c6 K5.out.2.2.1
  go_wp2_with (fail)
  refine (RH.out _).mono ?_
  rintro e w6 ⟨rfl, ho6⟩
  have K6 := stay K5 ho6
  clear ho6 d0 d1 d2 d3 d4 d5 K5 RH
  obtain ⟨d0, d1, d2, d3, d4, d5⟩ := Blk.c6 K6.out.2.2.1
  go_wp2_with (fail)
  refine (RB.out _).mono ?_
  rintro e w7 ⟨rfl, ho7⟩
  have K7 := stay K6 ho7
  clear ho7 d0 d1 d2 d3 d4 d5 K6 RB
  have k3 := conv_bs (c := c3) (Hid.out K7).2.1 27 9 Try.underlying27 Try.underlying5 Try.underlying9
  have k5 := conv_bs (c := c5) (Hid.out K7).1 27 9 Try.underlying27 Try.underlying5 Try.underlying9
  rw [S3.out] at k3
  rw [S5.out] at k5
  have FIN := Only.none_below K7.out.2.2.2.1
  go_wp2_with (fail)
  go_ret
  exact ⟨rfl, FIN⟩

set_option maxRecDepth 100000 in
theorem lifted (os : Os) (started : os.Started) (H : Type) (enc : TypeId × Value → H) :
    ReturnsInHanded {} Try.checked os 3 .any (Rows.iPBytesSpec.pre6 enc Try.prog Try.f3 Rows.iPBytesRow.domain false) (Rows.iPBytesSpec.post enc Try.prog Try.f3 false true false false) := by
  refine returnsInHanded_of_change (C := Try.checked) own started (by kernel_rfl) Try.func3
    (ChangeSpec.witness6 (enc := enc) (C := Try.checked) false ⟨#[], #[.agg #[.int .u16 0, .int .u8 0, .int .u8 0, .int .u32 0, .int .u32 0, .string ByteArray.empty], .int .i64 0], []⟩ 8 (by kernel_rfl) (by kernel_rfl) (by kernel_rfl) (by kernel_rfl)) ?_
  intro W base args ds gs before hval0 hW hcnd _
  have hval : ∀ (j : Nat) t v, Try.f3.params[j]? = some t → args[j]? = some v → Value.okWide Try.prog W .any base t v := hval0
  have hW' := hW
  obtain ⟨p, q, hA0, hV, rfl, hfz, hnd⟩ := hW
  have hA : DataW.TrodAll enc Try.prog W 0 (fun _ => true) true Try.f3.params.toList args.toList ds p := hA0
  rw [Try.params3] at hA hval
  obtain ⟨v0, vs0, d0, ds0, p0, q0, hargs, rfl, rfl, h0, r0⟩ := trodAll_cons hA
  obtain ⟨v1, vs1, d1, ds1, p1, q1, rfl, rfl, rfl, h1, r1⟩ := trodAll_cons r0
  obtain ⟨rfl, rfl, rfl⟩ := trodAll_nil r1
  obtain rfl : args = #[v0, v1] := by cases args; simp_all
  obtain ⟨rfl, rfl⟩ := trodVars_none hV
  have lt0 : ∀ x ∈ p0, x.block < W.heap.size := by obtain ⟨m, hm⟩ := h0; exact DataW.trod_lt m _ _ _ hm
  have s0 : Seen W 25 v0 := ⟨⟨base, hval 0 25 v0 rfl rfl⟩, H, enc, d0, p0, h0⟩
  have lt1 : ∀ x ∈ p1, x.block < W.heap.size := by obtain ⟨m, hm⟩ := h1; exact DataW.trod_lt m _ _ _ hm
  have s1 : Seen W 3 v1 := ⟨⟨base, hval 1 3 v1 rfl rfl⟩, H, enc, d1, p1, h1⟩
  clear hA0 hval0
  refine (walk v0 v1 W s0 s1).mono fun e W' ⟨he, bel⟩ => ?_
  subst he
  exact ⟨_, rfl, _, _, _, [], _, [], hW', trodAll_mk1 (shut_bool Try.underlying4 _), (trodAll_cons_mk (Below.trod laidOut (by kernel_rfl) (of_decide_eq_true (by kernel_rfl)) h0 bel lt0) (trodAll_cons_mk (Below.trod laidOut (by kernel_rfl) (of_decide_eq_true (by kernel_rfl)) h1 bel lt1) trodAll_mk0)), rfl, bel.frame _, fun h => by cases h⟩

theorem over : Rows.iPBytesRow.holds Try.pinned (OpenSpec.ofChange Rows.iPBytesSpec) :=
  OpenClaim.holds_of_wide 3 Try.f3 rfl rfl rfl rfl rfl rfl rfl ⟨rfl, rfl, rfl, rfl, rfl⟩ rfl rfl rfl rfl rfl (by kernel_rfl) Try.func3 (by kernel_rfl)
    (of_decide_eq_true (by kernel_rfl)) (by unfold Func.isWrapper; first | (rw [if_pos (by decide +kernel)]; kernel_rfl) | (rw [if_neg (by decide +kernel)]; exact ⟨rfl, rfl⟩))
    (fun os started H enc _ => lifted os started H enc)

/-- the statement -/
theorem proved : Rows.IPBytesSaid := over
#print axioms proved
end Go.Proofs.Ytdnimlabgcdkkaa.iPBytes
