/- The law of 'Rows.SeqnoOffsetsSaid': for every input the call returns true and leaves its arguments as they were. No condition. -/
import Derived.Test.YtkllnddcidfckaaRows
import Derived.WalkKit
import Derived.ProofKit
import Derived.OpenShut
import Derived.Test.YtkllnddcidfckaaFns
namespace Go.Proofs.Ytkllnddcidfckaa.seqnoOffsets
open Go.ChangeShapes Go.WideShapes Go.ChangeAt Go.RowKit
set_option linter.unusedVariables false      -- a walk need not use every 'w<i>' (that an integer argument fits its kind)

theorem own : ownKnob Try.prog.godebug = none := by kernel_rfl

theorem ap_two (a b : Int) : (b < a → ap a b = a - b) ∧ (a ≤ b → ap a b = b - a) := by
  unfold ap
  exact ⟨fun h => if_pos h, fun h => if_neg (by omega)⟩

theorem best_one (n0 near : Int) (h : -4294967296 < n0 - near ∧ n0 - near < 4294967296) : (2 * (n0 - near) < 4294967296 → best n0 near 1 = n0) ∧ (4294967296 ≤ 2 * (n0 - near) → best n0 near 1 = n0 - 4294967296) := by
  have h1 := ap_two (n0 + 4294967296 * ((0 : Nat) : Int)) near
  have h2 := ap_two (n0 - 4294967296) near
  rw [show best n0 near 1 = if ap (n0 + 4294967296 * ((0 : Nat) : Int)) near < ap (n0 - 4294967296) near then n0 + 4294967296 * ((0 : Nat) : Int) else n0 - 4294967296 from rfl]
  split <;> omega

theorem best_two (n0 near : Int) (f x : Int) (h : n0 = near - near % 4294967296 + (x - f) % 4294967296) : best n0 near 2 = near + sx (x - (f + near)) := by
  have h0 := best_one n0 near (by omega)
  have h1 := ap_two (n0 + 4294967296 * ((1 : Nat) : Int)) near
  have h2 := ap_two (best n0 near 1) near
  rw [show best n0 near 2 = if ap (n0 + 4294967296 * ((1 : Nat) : Int)) near < ap (best n0 near 1) near then n0 + 4294967296 * ((1 : Nat) : Int) else best n0 near 1 from rfl]
  unfold sx
  split <;> omega

theorem same (f x near : Int) : (near + sx (x - (f + near)) == best (near - near % 4294967296 + (x - f) % 4294967296) near 2) = true := by
  rw [best_two _ near f x rfl]; simp
theorem walk (a0 : Int) (a1 : Int) (a2 : Int) (w0 : (Lit.int .u32 a0).wf = true) (w1 : (Lit.int .u32 a1).wf = true) (w2 : (Lit.int .i64 a2).wf = true) (w : World) :
    Calls Try.prog 3 #[.int .u32 a0, .int .u32 a1, .int .i64 a2] w fun e w' => e = .returned (.bool true) ∧ Grown w w' := by
  have b0 := bounds_u32 w0
  have b1 := bounds_u32 w1
  clear w0 w1 w2
  by_cases h : 1099511627776 < a2
  · go_enter Try.func3, Try.ntmps3
    go_wp2_with (first | (go_at_call 7; refine (alive_any _).mono ?_; rintro e w' ⟨rfl, rfl⟩))
    go_ret
    exact ⟨rfl, by repeat (first | exact Grown.refl _ | apply Grown.drew | apply Grown.alloc)⟩
  · by_cases h2 : a2 < -1099511627776
    · go_enter Try.func3, Try.ntmps3
      go_wp2_with (first | (go_at_call 7; refine (alive_any _).mono ?_; rintro e w' ⟨rfl, rfl⟩))
      go_ret
      exact ⟨rfl, by repeat (first | exact Grown.refl _ | apply Grown.drew | apply Grown.alloc)⟩
    · have hs := same a0 a1 a2
      go_enter Try.func3, Try.ntmps3
      go_wp2_with (first | (go_at_call 7; refine (alive_any _).mono ?_; rintro e w' ⟨rfl, rfl⟩) | (go_at_call 8; refine (offset_any _ _ _ _ (by omega)).mono ?_; rintro e w' ⟨rfl, rfl⟩) | (go_at_call 9; refine (refOffset_any _ _ _ _ (by omega) (by omega) (by omega)).mono ?_; rintro e w' ⟨rfl, rfl⟩))
      go_ret
      exact ⟨rfl, by repeat (first | exact Grown.refl _ | apply Grown.drew | apply Grown.alloc)⟩

set_option maxRecDepth 100000 in
theorem lifted (os : Os) (started : os.Started) (H : Type) (enc : TypeId × Value → H) :
    ReturnsInHanded {} Try.checked os 3 .any (Rows.seqnoOffsetsSpec.pre6 enc Try.prog Try.f3 Rows.seqnoOffsetsRow.domain false) (Rows.seqnoOffsetsSpec.post enc Try.prog Try.f3 false true false false) := by
  refine returnsInHanded_of_change (C := Try.checked) own started (by kernel_rfl) Try.func3
    (ChangeSpec.witness6 (enc := enc) (C := Try.checked) false ⟨#[], #[.int .u32 0, .int .u32 0, .int .i64 0], []⟩ 8 (by kernel_rfl) (by kernel_rfl) (by kernel_rfl) (by kernel_rfl)) ?_
  intro W base args ds gs before hval0 hW hcnd _
  have hval : ∀ (j : Nat) t v, Try.f3.params[j]? = some t → args[j]? = some v → Value.okWide Try.prog W .any base t v := hval0
  have hW' := hW
  obtain ⟨p, q, hA0, hV, rfl, hfz, hnd⟩ := hW
  have hA : DataW.TrodAll enc Try.prog W 0 (fun _ => true) true Try.f3.params.toList args.toList ds p := hA0
  rw [Try.params3] at hA hval
  obtain ⟨v0, vs0, d0, ds0, p0, q0, hargs, rfl, rfl, h0, r0⟩ := trodAll_cons hA
  obtain ⟨v1, vs1, d1, ds1, p1, q1, rfl, rfl, rfl, h1, r1⟩ := trodAll_cons r0
  obtain ⟨v2, vs2, d2, ds2, p2, q2, rfl, rfl, rfl, h2, r2⟩ := trodAll_cons r1
  obtain ⟨rfl, rfl, rfl⟩ := trodAll_nil r2
  obtain rfl : args = #[v0, v1, v2] := by cases args; simp_all
  obtain ⟨rfl, rfl⟩ := trodVars_none hV
  obtain ⟨a0, rfl, rfl, rfl, w0⟩ := open_int Try.underlying22 (hval 0 22 v0 rfl rfl) h0
  obtain ⟨a1, rfl, rfl, rfl, w1⟩ := open_int Try.underlying22 (hval 1 22 v1 rfl rfl) h1
  obtain ⟨a2, rfl, rfl, rfl, w2⟩ := open_int Try.underlying3 (hval 2 3 v2 rfl rfl) h2
  clear hA0 hval0
  simp only [List.append_nil] at hW'
  refine (walk a0 a1 a2 w0 w1 w2 W).mono fun e W' ⟨he, hg⟩ => ?_
  subst he
  exact ⟨_, rfl, post_of_same (pa := []) (pv := []) hW' (fun _ _ _ => (trodAll_cons_mk (shut_bool Try.underlying4 _) trodAll_mk0)) (fun sp _ => (trodAll_cons_mk (shut_int Try.underlying22 w0) (trodAll_cons_mk (shut_int Try.underlying22 w1) (trodAll_cons_mk (shut_int Try.underlying3 w2) trodAll_mk0)))) (fun _ _ => rfl) rfl
    (hg.frame _) hg.2.1 (ok_one (by kernel_rfl) rfl (okWide_bool_mk Try.underlying4 _))⟩

theorem over : Rows.seqnoOffsetsRow.holds Try.pinned (OpenSpec.ofChange Rows.seqnoOffsetsSpec) :=
  OpenClaim.holds_of_wide 3 Try.f3 rfl rfl rfl rfl rfl rfl rfl ⟨rfl, rfl, rfl, rfl, rfl⟩ rfl rfl rfl rfl rfl (by kernel_rfl) Try.func3 (by kernel_rfl)
    (of_decide_eq_true (by kernel_rfl)) (by unfold Func.isWrapper; first | (rw [if_pos (by decide +kernel)]; kernel_rfl) | (rw [if_neg (by decide +kernel)]; exact ⟨rfl, rfl⟩))
    (fun os started H enc _ => lifted os started H enc)

/-- the statement -/
theorem proved : Rows.SeqnoOffsetsSaid :=
  over
#print axioms proved
end Go.Proofs.Ytkllnddcidfckaa.seqnoOffsets
