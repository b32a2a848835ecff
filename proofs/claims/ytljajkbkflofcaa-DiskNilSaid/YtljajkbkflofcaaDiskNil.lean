/- The law of 'Rows.DiskNilSaid': for every input the call returns true and leaves its arguments as they were. No condition. -/
import Derived.Test.YtljajkbkflofcaaRows
import Derived.WalkKit
import Derived.ProofKit
import Derived.OpenShut
import Derived.ChangeOld
import Derived.Below
import Derived.Deep.CutBlock
import Derived.Laws.BytesArg
import Derived.Deep.RegionHeld3
import Derived.Test.YtljajkbkflofcaaDskI
namespace Go.Proofs.Ytljajkbkflofcaa.diskNil
open Go.ChangeShapes Go.WideShapes Go.ChangeAt Go.RowKit
set_option linter.unusedVariables false
set_option linter.unusedSimpArgs false

theorem own : ownKnob Try.prog.godebug = none := by kernel_rfl
theorem laidOut : laidOutB Try.prog = true := by kernel_rfl


set_option maxRecDepth 100000 in
set_option maxHeartbeats 4000000 in
theorem walk (v0 : Value) (w : World) (s0 : Seen w 31 v0) :
    Calls Try.prog 7 #[v0] w fun e w' => e = .returned (.bool true) ∧ Below w.heap.size w w' := by
  obtain ⟨⟨k, env, i, b, s⟩, rfl, -⟩ := seen_act s0
  clear s0
  have DN := Lib.hid (fun (h : s.size ≤ 1000) w => do_nil ⟨k, env, i, b, s⟩ h w)
  unfold atv at DN
  simp only at DN
  unfold atv
  simp only
  obtain ⟨rb, hrb⟩ : ∃ r, w.heap.size = r := ⟨_, rfl⟩
  obtain ⟨Wa, hWa, sa, qa, oa⟩ := made w _ hrb 31 #[.int .i64 k, .int .i64 env, .int .i64 i, .int .i64 b, .string s]
  have K0 := addB (start w) oa qa
  have HWA := Lib.hid hWa
  have HRB := Lib.hid hrb
  clear hWa sa qa oa hrb
  go_enter Try.func7, Try.ntmps7
  go_upto_region 1 with (fail)
  rw [← HWA.out]
  try rw [HRB.out]
  clear HWA
  go_wp2_with (fail)
  refine (alive_any _).mono ?_
  rintro e w1 ⟨rfl, ho1⟩
  have K1 := stay K0 ho1
  clear ho1 K0
  obtain ⟨c0, c1, c2, c3, c4⟩ := Blk.c5 K1.out.1
  obtain ⟨q, hq⟩ : ∃ q, w1.heap.size = q := ⟨_, rfl⟩
  obtain ⟨Wb, hWb, sb, qb, ob⟩ := made w1 _ hq 31 #[.int .i64 k, .int .i64 env, .int .i64 i, .int .i64 b, .string s]
  have FR := Lib.hid (far_any (some ⟨q, 0, none⟩) 1 [⟨k, env, i, b, s⟩] Wb (Sl.of_blk qb rfl) (by simp [maxLen]))
  simp only [List.length_cons, List.length_nil, Nat.zero_add] at FR
  have K2 := stay K1 ob
  have HWB := Lib.hid hWb
  have HQ := Lib.hid hq
  clear hWb sb qb ob hq
  go_wp2_with (fail)
  rw [← HWB.out]
  try rw [HQ.out]
  refine FR.out.mono ?_
  rintro e w' ⟨rfl, rfl⟩
  clear c0 c1 c2 c3 c4 HWB
  obtain ⟨c0, c1, c2, c3, c4⟩ := Blk.c5 K2.out.1
  by_cases hbad : 1000 < s.size
  · rw [farB_yes (.inr ⟨_, List.mem_singleton.2 rfl, hbad⟩)]
    go_wp2_with (fail)
    go_ret
    exact ⟨rfl, Only.none_below K2.out.2.1⟩
  · rw [farB_no (by simp) (fun a ha => by rw [List.mem_singleton.1 ha]; exact hbad)]
    have HB := Lib.hid (Nat.le_of_not_lt hbad)
    clear hbad
    go_wp2_with (fail)
    refine (DN.out HB.out _).mono ?_
    rintro e w3 ⟨⟨s', rfl⟩, ho3⟩
    have K3 := stay K2 ho3
    clear ho3 c0 c1 c2 c3 c4
    obtain ⟨c0, c1, c2, c3, c4⟩ := Blk.c5 K3.out.1
    have O3 := Lib.hid K3.out.2.1
    have hne : nilE k = if k = 4 ∨ k = 5 ∨ k < 0 ∨ 6 < k then 0 else 3 := rfl
    generalize nilE k = N at *
    have HNE := Lib.hid hne
    clear hne
    by_cases q4 : k = 4
    · have hn : N = 0 := by rw [HNE.out, if_pos (.inl q4)]
      subst hn q4
      clear HNE
      go_wp2_with (first | (go_at_call 18; refine (on_nil _).mono ?_; rintro e w' ⟨rfl, rfl⟩) | (go_at_call 19; refine (waits_nil _).mono ?_; rintro e w' ⟨rfl, rfl⟩) | (go_at_call 20; refine (size_nil _).mono ?_; rintro e w' ⟨rfl, rfl⟩) | (go_at_call 15; refine (image_nil _).mono ?_; rintro e w' ⟨rfl, rfl⟩))
      go_ret
      exact ⟨rfl, Only.none_below O3.out⟩
    by_cases q5 : k = 5
    · have hn : N = 0 := by rw [HNE.out, if_pos (.inr (.inl q5))]
      subst hn q5
      clear HNE
      go_wp2_with (first | (go_at_call 18; refine (on_nil _).mono ?_; rintro e w' ⟨rfl, rfl⟩) | (go_at_call 19; refine (waits_nil _).mono ?_; rintro e w' ⟨rfl, rfl⟩) | (go_at_call 20; refine (size_nil _).mono ?_; rintro e w' ⟨rfl, rfl⟩) | (go_at_call 15; refine (image_nil _).mono ?_; rintro e w' ⟨rfl, rfl⟩))
      go_ret
      exact ⟨rfl, Only.none_below O3.out⟩
    have t4 : (k == 4) = false := by simpa using q4
    have t5 : (k == 5) = false := by simpa using q5
    by_cases q6 : k < 0
    · have hn : N = 0 := by rw [HNE.out, if_pos (by omega)]
      subst hn
      clear HNE q4 q5
      go_wp2_with (first | (go_at_call 18; refine (on_nil _).mono ?_; rintro e w' ⟨rfl, rfl⟩) | (go_at_call 19; refine (waits_nil _).mono ?_; rintro e w' ⟨rfl, rfl⟩) | (go_at_call 20; refine (size_nil _).mono ?_; rintro e w' ⟨rfl, rfl⟩) | (go_at_call 15; refine (image_nil _).mono ?_; rintro e w' ⟨rfl, rfl⟩))
      go_ret
      exact ⟨rfl, Only.none_below O3.out⟩
    by_cases q7 : 6 < k
    · have hn : N = 0 := by rw [HNE.out, if_pos (by omega)]
      subst hn
      clear HNE q4 q5
      go_wp2_with (first | (go_at_call 18; refine (on_nil _).mono ?_; rintro e w' ⟨rfl, rfl⟩) | (go_at_call 19; refine (waits_nil _).mono ?_; rintro e w' ⟨rfl, rfl⟩) | (go_at_call 20; refine (size_nil _).mono ?_; rintro e w' ⟨rfl, rfl⟩) | (go_at_call 15; refine (image_nil _).mono ?_; rintro e w' ⟨rfl, rfl⟩))
      go_ret
      exact ⟨rfl, Only.none_below O3.out⟩
    have hn : N = 3 := by rw [HNE.out, if_neg (by omega)]
    subst hn
    clear HNE q4 q5
    go_wp2_with (first | (go_at_call 18; refine (on_nil _).mono ?_; rintro e w' ⟨rfl, rfl⟩) | (go_at_call 19; refine (waits_nil _).mono ?_; rintro e w' ⟨rfl, rfl⟩) | (go_at_call 20; refine (size_nil _).mono ?_; rintro e w' ⟨rfl, rfl⟩) | (go_at_call 15; refine (image_nil _).mono ?_; rintro e w' ⟨rfl, rfl⟩))
    go_ret
    exact ⟨rfl, Only.none_below O3.out⟩

set_option maxRecDepth 100000 in
theorem lifted (os : Os) (started : os.Started) (H : Type) (enc : TypeId × Value → H) :
    ReturnsInHanded {} Try.checked os 7 .any (Rows.diskNilSpec.pre6 enc Try.prog Try.f7 Rows.diskNilRow.domain false) (Rows.diskNilSpec.post enc Try.prog Try.f7 false true false false) := by
  refine returnsInHanded_of_change (C := Try.checked) own started (by kernel_rfl) Try.func7
    (ChangeSpec.witness6 (enc := enc) (C := Try.checked) false ⟨#[], #[.agg #[.int .i64 0, .int .i64 0, .int .i64 0, .int .i64 0, .string ByteArray.empty]], []⟩ 8 (by kernel_rfl) (by kernel_rfl) (by kernel_rfl) (by kernel_rfl)) ?_
  intro W base args ds gs before hval0 hW hcnd _
  have hval : ∀ (j : Nat) t v, Try.f7.params[j]? = some t → args[j]? = some v → Value.okWide Try.prog W .any base t v := hval0
  have hW' := hW
  obtain ⟨p, q, hA0, hV, rfl, hfz, hnd⟩ := hW
  have hA : DataW.TrodAll enc Try.prog W 0 (fun _ => true) true Try.f7.params.toList args.toList ds p := hA0
  rw [Try.params7] at hA hval
  obtain ⟨v0, vs0, d0, ds0, p0, q0, hargs, rfl, rfl, h0, r0⟩ := trodAll_cons hA
  obtain ⟨rfl, rfl, rfl⟩ := trodAll_nil r0
  obtain rfl : args = #[v0] := by cases args; simp_all
  obtain ⟨rfl, rfl⟩ := trodVars_none hV
  have lt0 : ∀ x ∈ p0, x.block < W.heap.size := by obtain ⟨m, hm⟩ := h0; exact DataW.trod_lt m _ _ _ hm
  have s0 : Seen W 31 v0 := ⟨⟨base, hval 0 31 v0 rfl rfl⟩, H, enc, d0, p0, h0⟩
  clear hA0 hval0
  refine (walk v0 W s0).mono fun e W' ⟨he, bel⟩ => ?_
  subst he
  exact ⟨_, rfl, _, _, _, [], _, [], hW', trodAll_mk1 (shut_bool Try.underlying4 _), (trodAll_cons_mk (Below.trod laidOut (by kernel_rfl) (of_decide_eq_true (by kernel_rfl)) h0 bel lt0) trodAll_mk0), rfl, bel.frame _, fun h => by cases h⟩

theorem over : Rows.diskNilRow.holds Try.pinned (OpenSpec.ofChange Rows.diskNilSpec) :=
  OpenClaim.holds_of_wide 7 Try.f7 rfl rfl rfl rfl rfl rfl rfl ⟨rfl, rfl, rfl, rfl, rfl⟩ rfl rfl rfl rfl rfl (by kernel_rfl) Try.func7 (by kernel_rfl)
    (of_decide_eq_true (by kernel_rfl)) (by unfold Func.isWrapper; first | (rw [if_pos (by decide +kernel)]; kernel_rfl) | (rw [if_neg (by decide +kernel)]; exact ⟨rfl, rfl⟩))
    (fun os started H enc _ => lifted os started H enc)

/-- the statement -/
theorem proved : Rows.DiskNilSaid := over
#print axioms proved
end Go.Proofs.Ytljajkbkflofcaa.diskNil
